/- Bytes that are written (pack.Out): walked. -/
import Derived.Test.YtpehhhbmobmedaaGreatDoorGO
import Derived.Test.YtpehhhbmobmedaaGreatDoorHc
import Derived.Test.YtpehhhbmobmedaaGreatDoorMY
namespace Go.Proofs.YtpehhhbmobmedaaGreatDoor
set_option linter.unusedVariables false
set_option linter.unusedSimpArgs false
set_option linter.unusedSectionVars false
section
open Go.RowKit
attribute [local irreducible] Tr Run RunD GS TG Le Wk Frz Fn' ImmG Flat WkFr WkSt EndM Ex EndX McK

def OutAt (σ:Sto) (i:Nat):Option Nat → List UInt8 → Prop
 | none,l => sget σ i = some ⟨111,[.lit (.slice none 0 0)],none⟩ ∧ l = []
 | some j,l => j ≠ i ∧ sget σ i = some ⟨111,[.rsl j 0 l.length],none⟩ ∧ sget σ j = some ⟨5,l.map gY,none⟩
def Kept (σ σ':Sto) (c i:Nat) (r:Option Nat):Prop:=∀ k,k < c → k ≠ i → r ≠ some k → sget σ' k = sget σ k

/-! ### the row grows -/
theorem out_ld {σ:Sto} {i:Nat} {r:Option Nat} {l:List UInt8} (h:OutAt σ i r l):∃ g,sget σ i = some ⟨111,[g],none⟩ ∧ gload Tryz.prog σ 22 (.ref i 0) = some g ∧
  ∀ (σ1:Sto) (c1:Nat) (gy:G) (m:List UInt8),(∀ k,r = some k → sget σ1 k = sget σ k) → gview σ1 1 gy = some (m.map gY,m.length) → l.length + m.length ≤ 140737488355328 →
   ∃ q,gapp Tryz.prog σ1 c1 22 g gy = some (5,q,(l ++ m).length,(l ++ m).map gY) ∧ (q = c1 ∨ r = some q):=by
 have sz:tsize Tryz.prog 5 = some 1:=by kernel_rfl
 have sl:tsize Tryz.prog 22 = some 1:=by kernel_rfl
 have al:tagg Tryz.prog 22 = some false:=by kernel_rfl
 have el:telem Tryz.prog 22 = some 5:=by kernel_rfl
 have ze:tzero Tryz.prog 5 = some [.int .u8 0]:=by kernel_rfl
 have by':(Tryz.prog.info? 5).map (·.bytes) = some 1:=by kernel_rfl
 cases r with
 | none =>
  obtain ⟨h1,rfl⟩:=h
  refine ⟨_,h1,?_,fun σ1 c1 gy m h2 h3 h4 => ⟨c1,?_,.inl rfl⟩⟩
  ·simp only [gload,h1,Option.bind_some]
   unfold gpart
   rw [al,sl]
   rfl
  ·unfold gapp
   rw [el]
   simp only [Option.bind_some,sz,ze,by',h3]
   simp [gsrc]
   simp at h4
   omega
 | some j =>
  obtain ⟨h0,h1,h2⟩:=h
  refine ⟨_,h1,?_,fun σ1 c1 gy m h5 h3 h4 => ⟨j,?_,.inr rfl⟩⟩
  ·simp only [gload,h1,Option.bind_some]
   unfold gpart
   rw [al,sl]
   rfl
  ·unfold gapp
   rw [el]
   simp only [Option.bind_some,sz,ze,by',h3]
   simp [gsrc,h5 j rfl,h2]
   omega
theorem out_st {σ:Sto} {i q c1:Nat} {g:G} {l:List UInt8} (hi:sget σ i = some ⟨111,[g],none⟩) (h1:c1 ≠ i) (h2:q ≠ i) {ob:Ob}:gsto Tryz.prog ((c1,some ob) :: (q,none) :: σ) 22 (.ref i 0) (.rsl c1 0 l.length) = some (i,⟨111,[.rsl c1 0 l.length],none⟩):=by
 have sl:tsize Tryz.prog 22 = some 1:=by kernel_rfl
 simp only [gsto,sget_ne h1,sget_ne h2,hi,Option.bind_some,gcells,sl]
 simp
theorem out_put {σ:Sto} {i q c1:Nat} {ob:Ob} {r:Option Nat} {l m:List UInt8} {c0:Nat} (h:OutAt σ i r l) (hi:i < c0) (hc:c0 ≤ c1) (hr:∀ k,r = some k → k < c1) (hq:q = c1 ∨ r = some q) (hm:ob = ⟨5,m.map gY,none⟩) (τ:Sto) (hτ:∀ k,k < c0 → sget τ k = sget σ k) :
  OutAt ((i,some ⟨111,[.rsl c1 0 m.length],none⟩) :: (c1,some ob) :: (q,none) :: τ) i (some c1) m ∧ Kept σ ((i,some ⟨111,[.rsl c1 0 m.length],none⟩) :: (c1,some ob) :: (q,none) :: τ) c0 i r:=by
 subst hm
 refine ⟨⟨by omega,sget_eq rfl,by rw [sget_ne (by omega),sget_eq rfl]⟩,fun k hk hki hrk => ?_⟩
 rw [sget_ne (by omega),sget_ne (by omega),sget_ne ?_,hτ k (by omega)]
 rcases hq with rfl | hq
 ·omega
 ·intro e; subst e; exact hrk hq
theorem Kept.trans {σ σ1 σ2:Sto} {c c1 i:Nat} {r r1:Option Nat} (h:Kept σ σ1 c i r) (h1:Kept σ1 σ2 c1 i r1) (hc:c ≤ c1) (hr:∀ k,r1 = some k → c ≤ k):Kept σ σ2 c i r:=fun k hk hki hrk => by
 rw [h1 k (by omega) hki (fun e => by have:=hr k e; omega)]
 exact h k hk hki hrk
theorem Kept.refl {σ:Sto} {c i:Nat} {r:Option Nat}:Kept σ σ c i r:=fun _ _ _ _ => rfl

set_option maxHeartbeats 1000000 in
theorem num_mc (gl:List (Nat × List G)) (i:Nat) (r:Option Nat) (l:List UInt8) (n:Nat) (σ:Sto) (c:Nat) (hn:n < 18446744073709551616) (ho:OutAt σ i r l) (hi:i < c) (hr:∀ k,r = some k → k < c) (hl:l.length ≤ 1000000000000) :
  Mc Tryz.prog gl 52 [.ref i 0,gU n] σ c (fun v σ' c' => v = .tup [] ∧ c ≤ c' ∧ ∃ j,c ≤ j ∧ j < c' ∧ OutAt σ' i (some j) (l ++ nb n) ∧ Kept σ σ' c i r):=by
 refine mc_enter (by kernel_rfl) Tryz.func52 rfl (by simp [Tryz.ntmps52]) ?_
 simp only [enterFr,Tryz.ntmps52]
 have hlen:=nb_len64 hn
 apply ex_seq
 apply ex_block
 refine ex_loop (fun k s => ∃ (σ1:Sto) (c1:Nat) (r1:Option Nat) (l1:List UInt8),s = ⟨31,gl,[(0,.ref i 0),(1,gU k)],σ1,c1,c,false⟩ ∧ k < 18446744073709551616 ∧ OutAt σ1 i r1 l1 ∧ c ≤ c1 ∧ (∀ j,r1 = some j → j < c1) ∧ l1 ++ nb k = l ++ nb n ∧ Kept σ σ1 c i r ∧ (r1 = r ∨ ∀ j,r1 = some j → c ≤ j)) n (Le.refl _) ⟨σ,c,r,l,rfl,hn,ho,Nat.le_refl _,hr,rfl,.refl,.inl rfl⟩ ?_
 rintro k s ⟨σ1,c1,r1,l1,rfl,hk,h1,h2,h3,h4,h5,h6⟩
 have hl1:l1.length + (nb k).length = l.length + (nb n).length:=by rw [← List.length_append,h4,List.length_append]
 have hb:1 ≤ (nb k).length:=by
  have:=nb_ne k
  cases h:nb k with
  | nil => exact absurd h this
  | cons a b => simp
 obtain ⟨g,hg0,hg1,hg2⟩:=out_ld h1
 have kept:∀ σ2,Kept σ1 σ2 c i r1 → Kept σ σ2 c i r:=fun σ2 hk2 k hk hki hrk => by
  rw [hk2 k hk hki (fun e => by
   rcases h6 with h6 | h6
   ·rw [h6] at e; exact hrk e
   ·have:=h6 k e; omega)]
  exact h5 k hk hki hrk
 refine wS ?_
 refine zv (gU k) ?_
 refine run_bin rfl rfl gb_geq (by decide) ?_
 refine wS ?_
 refine ex_condP (p:=(128:Int) ≤ k) rfl (fun h => ?_) (fun h => ?_)
 ·have hk8:¬ k < 128:=by omega
  refine wS ?_
  refine zv (.ref i 0) ?_
  refine zv (.ref i 0) ?_
  refine zv (.ref i 0) ?_
  refine zv (.ref i 0) ?_
  refine zt (g) hg1 ?_
  refine zv (gU k) ?_
  refine run_conv (g:=.lit (.int .u8 ((k % 256:Nat):Int))) (by rw [show ((k % 256:Nat):Int) = IntKind.u8.wrap (k:Int) by rw [IntKind.wrap_u8]; omega]; kernel_rfl) (by decide) ?_
  refine run_bin rfl rfl gb_or8 (by decide) ?_
  have e8:(((k % 256 % 128 + 128:Nat):Int)) = ((UInt8.ofNat (k % 128 + 128)).toNat:Int):=by simp; omega
  rw [e8]
  refine run_bs (l:=[gY (UInt8.ofNat (k % 128 + 128))]) (e:=5) (by kernel_rfl) (by decide) ?_
  obtain ⟨q,hq,hq2⟩:=hg2 ((c1,some ⟨5,[gY (UInt8.ofNat (k % 128 + 128))],none⟩) :: σ1) (c1 + 1) (.rsl c1 0 1) [UInt8.ofNat (k % 128 + 128)] (fun j hj => sget_ne (by have:=h3 j hj; omega)) (by simp [gview,sget_eq]) (by simp; omega)
  have hqi:q ≠ i:=by
   rcases hq2 with rfl | hq2
   ·omega
   ·subst hq2; exact h1.1
  refine run_app hq (by decide) ?_
  refine zv (.ref i 0) ?_
  refine zv (.ref i 0) ?_
  refine run_sto (out_st (σ:=(c1,some ⟨5,[gY (UInt8.ofNat (k % 128 + 128))],none⟩) :: σ1) (by rw [sget_ne (by omega)]; exact hg0) (by omega) hqi) ?_
  refine wS ?_
  refine zv (gU k) ?_
  refine run_bin rfl rfl gb_shr7 (by decide) ?_
  refine zv (gU (k / 128)) ?_
  refine wS ?_
  obtain ⟨p1,p2⟩:=out_put (c0:=c) (c1:=c1 + 1) (q:=q) h1 hi (by omega) (fun j hj => by have:=h3 j hj; omega) hq2 rfl ((c1,some ⟨5,[gY (UInt8.ofNat (k % 128 + 128))],none⟩) :: σ1) (fun j hj => sget_ne (by omega))
  refine ⟨k / 128,_,by omega,le_frs (fr':=[(0,.ref i 0),(1,gU (k / 128))]) (by repeat' (first|exact ⟨⟩|refine ⟨rfl,?_⟩)),_,_,_,_,rfl,by omega,p1,by omega,fun j hj => by cases hj; omega,?_,kept _ p2,.inr fun j hj => by cases hj; omega⟩
  rw [← h4,nb_hi hk8,List.append_assoc]; rfl
 ·have hk8:k < 128:=by omega
  refine wS ?_
  refine zv (.ref i 0) ?_
  refine zv (.ref i 0) ?_
  refine zv (.ref i 0) ?_
  refine zv (.ref i 0) ?_
  refine zt (g) hg1 ?_
  refine zv (gU k) ?_
  refine run_conv (g:=gY (UInt8.ofNat k)) (by rw [gY_of (by omega),show (k:Int) = IntKind.u8.wrap (k:Int) by rw [IntKind.wrap_u8]; omega]; kernel_rfl) (by decide) ?_
  refine run_bs (l:=[gY (UInt8.ofNat k)]) (e:=5) (by kernel_rfl) (by decide) ?_
  obtain ⟨q,hq,hq2⟩:=hg2 ((c1,some ⟨5,[gY (UInt8.ofNat k)],none⟩) :: σ1) (c1 + 1) (.rsl c1 0 1) [UInt8.ofNat k] (fun j hj => sget_ne (by have:=h3 j hj; omega)) (by simp [gview,sget_eq]) (by simp; omega)
  have hqi:q ≠ i:=by
   rcases hq2 with rfl | hq2
   ·omega
   ·subst hq2; exact h1.1
  refine run_app hq (by decide) ?_
  refine zv (.ref i 0) ?_
  refine zv (.ref i 0) ?_
  refine run_sto (out_st (σ:=(c1,some ⟨5,[gY (UInt8.ofNat k)],none⟩) :: σ1) (by rw [sget_ne (by omega)]; exact hg0) (by omega) hqi) ?_
  refine wS ?_
  obtain ⟨p1,p2⟩:=out_put (c0:=c) (c1:=c1 + 1) (q:=q) h1 hi (by omega) (fun j hj => by have:=h3 j hj; omega) hq2 rfl ((c1,some ⟨5,[gY (UInt8.ofNat k)],none⟩) :: σ1) (fun j hj => sget_ne (by omega))
  refine endx (.inl rfl) (gs:=[]) rfl ⟨rfl,by omega,c1 + 1,by omega,by omega,?_,kept _ p2⟩
  rw [← h4,nb_lo hk8]
  exact p1

theorem fold_fn (gl:List (Nat × List G)) (n:Int) (hn:Is64 n):Fn' Tryz.prog gl 83 [vI n] (vU (zig n)):=by
 refine fn_enter Tryz.func83 rfl (by simp [Tryz.ntmps83]) (Ex.tr ?_)
 simp only [St.enter,enterFr,Tryz.ntmps83]
 refine wS ?_
 refine zv (vU 0) ?_
 refine wS ?_
 refine zv (vI n) ?_
 refine run_conv (g:=.lit (.int .u64 (IntKind.u64.wrap n))) (by kernel_rfl) (by decide) ?_
 refine run_bin rfl rfl (gb_shl 1 (by decide)) (by decide) ?_
 refine zv (vI n) ?_
 refine run_bin rfl rfl (shrK 63 (by decide)) (by decide) ?_
 refine run_conv (g:=.lit (.int .u64 (IntKind.u64.wrap (n.fdiv (2 ^ 63))))) (by kernel_rfl) (by decide) ?_
 refine run_bin rfl rfl (zig_x hn) (by decide) ?_
 refine zv (vU (zig n)) ?_
 refine wS ?_
 exact ended_r rfl (frz_int rfl)
def Wrote (σ σ':Sto) (c c' i:Nat) (r:Option Nat) (l m:List UInt8) (v:G):Prop:=v = .tup [] ∧ c ≤ c' ∧ ∃ j,c ≤ j ∧ j < c' ∧ OutAt σ' i (some j) (l ++ m) ∧ Kept σ σ' c i r
theorem int_mc (gl:List (Nat × List G)) (i:Nat) (r:Option Nat) (l:List UInt8) (n:Int) (σ:Sto) (c:Nat) (hn:Is64 n) (ho:OutAt σ i r l) (hi:i < c) (hr:∀ k,r = some k → k < c) (hl:l.length ≤ 1000000000000) :
  Mc Tryz.prog gl 50 [.ref i 0,vI n] σ c (fun v σ' c' => Wrote σ σ' c c' i r l (nb (zig n)) v):=by
 obtain ⟨v,σ',c',hF,hM⟩:=num_mc gl i r l (zig n) σ c (zig_lt hn) ho hi hr hl
 refine mc_enter (by kernel_rfl) Tryz.func50 rfl (by simp [Tryz.ntmps50]) ?_
 simp only [enterFr,Tryz.ntmps50]
 refine wS ?_
 refine zv (.ref i 0) ?_
 refine zv (vI n) ?_
 refine run_c (fold_fn gl n hn) (by kernel_rfl) (by decide) rfl (im1 (imm_lit _)) ?_
 refine run_m hM [] [] (by kernel_rfl) (by kernel_rfl) (by decide) ?_
 refine wS ?_
 exact endx (.inl rfl) (gs:=[]) rfl ⟨rfl,hF.2⟩
def vId (a b:Int) (c:Nat):G:=.agg [vI a,vI b,vU c]
def idB (a b:Int) (c:Nat):List UInt8:=nb (zig a) ++ nb (zig b) ++ nb c
theorem imm_id (a b:Int) (c:Nat):ImmG (vId a b c):=imm_agg (im3 (imm_lit _) (imm_lit _) (imm_lit _))
theorem cells_id (a b:Int) (c:Nat):gbox Tryz.prog 61 (vId a b c) = some [vI a,vI b,vU c]:=by kernel_rfl
theorem OutAt.more {σ σ':Sto} {i:Nat} {r:Option Nat} {l:List UInt8} (h:OutAt σ i r l) (h1:sget σ' i = sget σ i) (h2:∀ k,r = some k → sget σ' k = sget σ k):OutAt σ' i r l:=by
 cases r with
 | none => exact ⟨h1.trans h.1,h.2⟩
 | some j => exact ⟨h.1,h1.trans h.2.1,(h2 j rfl).trans h.2.2⟩
theorem Wrote.next {σ σ1 σ2:Sto} {c c1 c2 i j:Nat} {r:Option Nat} {l m m2:List UInt8} {v:G} (h0:c ≤ c1) (hj:c ≤ j) (h:Kept σ σ1 c i r) (h2:Wrote σ1 σ2 c1 c2 i (some j) (l ++ m) m2 v):Wrote σ σ2 c c2 i r l (m ++ m2) v:=by
 obtain ⟨hv,hc,j2,a1,a2,a3,a4⟩:=h2
 exact ⟨hv,by omega,j2,by omega,a2,by rwa [List.append_assoc] at a3,h.trans a4 h0 (fun k hk => by cases hk; exact hj)⟩
set_option maxHeartbeats 1000000 in
theorem ident_mc (gl:List (Nat × List G)) (i:Nat) (r:Option Nat) (l:List UInt8) (a b:Int) (s:Nat) (σ:Sto) (c:Nat) (ha:Is64 a) (hb:Is64 b) (hs:s < 18446744073709551616) (ho:OutAt σ i r l) (hi:i < c) (hr:∀ k,r = some k → k < c) (hl:l.length ≤ 100000000000) :
  Mc Tryz.prog gl 53 [.ref i 0,vId a b s] σ c (fun v σ' c' => Wrote σ σ' c c' i r l (idB a b s) v):=by
 have la:=nb_len64 (zig_lt ha)
 have lb:=nb_len64 (zig_lt hb)
 have e0:sget ((c,some ⟨61,[vI a,vI b,vU s],none⟩) :: σ) c = some ⟨61,[vI a,vI b,vU s],none⟩:=sget_eq rfl
 obtain ⟨v1,σ1,c1,hF1,hM1⟩:=int_mc gl i r l a ((c,some ⟨61,[vI a,vI b,vU s],none⟩) :: σ) (c + 1) ha (ho.more (sget_ne (by omega)) (fun k hk => sget_ne (by have:=hr k hk; omega))) (by omega) (fun k hk => by have:=hr k hk; omega) (by omega)
 obtain ⟨_,p1,j1,p2,p3,p4,p5⟩:=hF1
 obtain ⟨v2,σ2,c2,hF2,hM2⟩:=int_mc gl i (some j1) (l ++ nb (zig a)) b σ1 c1 hb p4 (by omega) (fun k hk => by cases hk; exact p3) (by simp; omega)
 obtain ⟨q0,q1,j2,q2,q3,q4,q5⟩:=hF2
 obtain ⟨v3,σ3,c3,hF3,hM3⟩:=num_mc gl i (some j2) (l ++ nb (zig a) ++ nb (zig b)) s σ2 c2 hs q4 (by omega) (fun k hk => by cases hk; exact q3) (by simp; omega)
 have hW:Wrote σ σ3 c c3 i r l (idB a b s) v3:=by
  obtain ⟨s0,s1,j3,s2,s3,s4,s5⟩:=hF3
  refine ⟨s0,by omega,j3,by omega,s3,?_,fun k hk hki hrk => ?_⟩
  ·unfold idB
   rw [show l ++ (nb (zig a) ++ nb (zig b) ++ nb s) = l ++ nb (zig a) ++ nb (zig b) ++ nb s by simp only [List.append_assoc]]
   exact s4
  ·rw [s5 k (by omega) hki (fun e => by cases e; omega),q5 k (by omega) hki (fun e => by cases e; omega),p5 k (by omega) hki hrk,sget_ne (by omega)]
 have e1:sget σ1 c = some ⟨61,[vI a,vI b,vU s],none⟩:=by rw [p5 c (by omega) (by omega) (fun e => by have:=hr c e; omega),e0]
 have e2:sget σ2 c = some ⟨61,[vI a,vI b,vU s],none⟩:=by rw [q5 c (by omega) (by omega) (fun e => by cases e; omega),e1]
 have ld0:gload Tryz.prog ((c,some ⟨61,[vI a,vI b,vU s],none⟩) :: σ) 3 (.ref c 0) = some (vI a):=by simp only [gload,e0]; kernel_rfl
 have ld1:gload Tryz.prog σ1 3 (.ref c 1) = some (vI b):=by simp only [gload,e1]; kernel_rfl
 have ld2:gload Tryz.prog σ2 23 (.ref c 2) = some (vU s):=by simp only [gload,e2]; kernel_rfl
 refine mc_enter (by kernel_rfl) Tryz.func53 rfl (by simp [Tryz.ntmps53]) ?_
 simp only [enterFr,Tryz.ntmps53]
 refine wS ?_
 refine run_box (cells_id a b s) (by decide) ?_
 refine wS ?_
 refine zv (.ref i 0) ?_
 refine zv (.ref c 0) ?_
 refine zt (vI a) ld0 ?_
 refine run_m hM1 [] [] (by kernel_rfl) (by kernel_rfl) (by decide) ?_
 refine wS ?_
 refine zv (.ref i 0) ?_
 refine zv (.ref c 1) ?_
 refine zt (vI b) ld1 ?_
 refine run_m hM2 [] [] (by kernel_rfl) (by kernel_rfl) (by decide) ?_
 refine wS ?_
 refine zv (.ref i 0) ?_
 refine zv (.ref c 2) ?_
 refine zt (vU s) ld2 ?_
 refine run_m hM3 [] [] (by kernel_rfl) (by kernel_rfl) (by decide) ?_
 refine wS ?_
 exact endx (.inl rfl) (gs:=[]) rfl ⟨rfl,hW.2⟩
end
section
open Go.RowKit
attribute [local irreducible] Tr Run RunD GS TG Le Wk Frz Fn' ImmG Flat WkFr WkSt EndM Ex EndX McK FnM
abbrev RowB (σ:Sto) (g:G) (l:List UInt8) (r:Option Nat):Prop:=RowIs 5 1 σ g l.length (l.map gY) r
theorem rowb_app {σ:Sto} {g:G} {l:List UInt8} {r:Option Nat} (h:RowB σ g l r) {gy:G} {m:List UInt8} (hv:gview σ 1 gy = some (m.map gY,m.length)) (hb:l.length + m.length ≤ 140737488355328) (c:Nat):∃ q,gapp Tryz.prog σ c 22 g gy = some (5,q,(l ++ m).length,(l ++ m).map gY) ∧ (q = c ∨ r = some q):=by
 obtain ⟨q,hq,hq2⟩:=row_app (P:=Tryz.prog) (t:=22) (e:=5) (s:=1) (b:=1) (zs:=[.int .u8 0]) (by kernel_rfl) (by kernel_rfl) (by omega) (by kernel_rfl) rfl (by kernel_rfl) h hv (by omega) c
 exact ⟨q,by rw [hq,List.length_append,List.map_append],hq2⟩
theorem rowb_new {σ:Sto} {c q:Nat} {l:List UInt8}:RowB ((c,some ⟨5,l.map gY,none⟩) :: (q,none) :: σ) (.rsl c 0 l.length) l (some c):=⟨rfl,sget_eq rfl,by simp⟩
theorem imm_lits (l:List UInt8):∀ g ∈ l.map gY,∃ v,g = .lit v:=fun g hg => by
 obtain ⟨b,_,rfl⟩:=List.mem_map.1 hg
 exact ⟨_,rfl⟩
theorem gb_rem128 {P:Program} {x y:Operand} {t:TypeId} {a:Nat}:gbin P .rem t x y (.lit (.int .u64 (a:Int))) (.lit (.int .u64 128)) = some (gU (a % 128)):=by
 rw [gb_rem (by decide),tmod_pos (by omega)]; rfl
theorem gb_quo128 {P:Program} {x y:Operand} {t:TypeId} {a:Nat} (h:a < 18446744073709551616):gbin P .quo t x y (.lit (.int .u64 (a:Int))) (.lit (.int .u64 128)) = some (gU (a / 128)):=by
 rw [gb_quo (by decide),tdiv_pos (by omega),wu64 (by omega)]; rfl
theorem gb_add128 {P:Program} {x y:Operand} {t:TypeId} {a:Nat} (h:a < 128):gbin P .add t x y (.lit (.int .u8 (a:Int))) (.lit (.int .u8 128)) = some (gY (UInt8.ofNat (a + 128))):=by
 rw [gY_of (by omega),gb_add,wu8 (by omega)]; rfl
set_option maxHeartbeats 1000000 in
theorem num04_fn (gl:List (Nat × List G)) (n:Nat) (hn:n < 18446744073709551616):FnR Tryz.prog gl 28 [gU n] 5 (nb n).length ((nb n).map gY):=by
 refine fnr_enter Tryz.func28 rfl (by simp [Tryz.ntmps28]) (Ex.tr ?_)
 simp only [St.enter,enterFr,Tryz.ntmps28]
 have hlen:=nb_len64 hn
 refine wS ?_
 refine zv (.lit (.slice none 0 0)) ?_
 refine wS ?_
 refine zv (.lit (.slice none 0 0)) ?_
 refine wS ?_
 refine ex_loop (fun k s => ∃ (σ1:Sto) (c1:Nat) (g:G) (r:Option Nat) (l:List UInt8),s = ⟨20,gl,[(0,gU k),(3,g)],σ1,c1,0,false⟩ ∧ k < 18446744073709551616 ∧ RowB σ1 g l r ∧ (∀ j,r = some j → j < c1) ∧ l ++ nb k = nb n) n (le_frs (fr':=[(0,gU n),(3,.lit (.slice none 0 0))]) (by repeat' (first|exact ⟨⟩|refine ⟨rfl,?_⟩))) ⟨[],0,_,none,[],rfl,hn,⟨rfl,rfl,rfl⟩,(fun j hj => by cases hj),rfl⟩ ?_
 rintro k s ⟨σ1,c1,g,r,l,rfl,hk,h1,h2,h3⟩
 have hl1:l.length + (nb k).length = (nb n).length:=by rw [← List.length_append,h3]
 refine wS ?_
 refine zv (gU k) ?_
 refine run_bin rfl rfl gb_gtr (by decide) ?_
 refine wS ?_
 refine ex_condP (p:=(127:Int) < k) rfl (fun h => ?_) (fun h => ?_)
 ·have hk8:¬ k < 128:=by omega
  refine wS ?_
  refine zv (g) ?_
  refine zv (gU k) ?_
  refine run_bin rfl rfl gb_rem128 (by decide) ?_
  refine run_conv (g:=.lit (.int .u8 ((k % 128:Nat):Int))) (Eq.trans (by kernel_rfl) (congrArg some (show G.lit (.int .u8 (IntKind.u8.wrap ((k % 128:Nat):Int))) = _ by rw [wu8 (by omega)]))) (by decide) ?_
  refine run_bin rfl rfl (gb_add128 (by omega)) (by decide) ?_
  refine run_bs (l:=[gY (UInt8.ofNat (k % 128 + 128))]) (e:=5) (by kernel_rfl) (by decide) ?_
  obtain ⟨q,hq,hq2⟩:=rowb_app (σ:=(c1,some ⟨5,[gY (UInt8.ofNat (k % 128 + 128))],none⟩) :: σ1) (g:=g) (l:=l) (r:=r) (gy:=.rsl c1 0 1) (m:=[UInt8.ofNat (k % 128 + 128)]) (by
   cases r with
   | none => exact h1
   | some j => exact ⟨h1.1,by rw [sget_ne (by have:=h2 j rfl; omega)]; exact h1.2.1,h1.2.2⟩) (by simp [gview,sget_eq]) (by simp; omega) (c1 + 1)
  refine run_app hq (by decide) ?_
  refine zv (.rsl (c1 + 1) 0 (l ++ [UInt8.ofNat (k % 128 + 128)]).length) ?_
  refine wS ?_
  refine zv (gU k) ?_
  refine run_bin rfl rfl (gb_quo128 hk) (by decide) ?_
  refine zv (gU (k / 128)) ?_
  refine wS ?_
  exact ⟨k / 128,_,by omega,le_frs (fr':=[(0,gU (k / 128)),(3,.rsl (c1 + 1) 0 (l ++ [UInt8.ofNat (k % 128 + 128)]).length)]) (by repeat' (first|exact ⟨⟩|refine ⟨rfl,?_⟩)),_,_,_,_,_,rfl,by omega,rowb_new,fun j hj => by cases hj; omega,by rw [← h3,nb_hi hk8,List.append_assoc]; rfl⟩
 ·have hk8:k < 128:=by omega
  refine wS ?_
  refine zv (g) ?_
  refine zv (gU k) ?_
  refine run_conv (g:=gY (UInt8.ofNat k)) (by rw [gY_of (by omega),show (k:Int) = IntKind.u8.wrap (k:Int) by rw [IntKind.wrap_u8]; omega]; kernel_rfl) (by decide) ?_
  refine run_bs (l:=[gY (UInt8.ofNat k)]) (e:=5) (by kernel_rfl) (by decide) ?_
  obtain ⟨q,hq,hq2⟩:=rowb_app (σ:=(c1,some ⟨5,[gY (UInt8.ofNat k)],none⟩) :: σ1) (g:=g) (l:=l) (r:=r) (gy:=.rsl c1 0 1) (m:=[UInt8.ofNat k]) (by
   cases r with
   | none => exact h1
   | some j => exact ⟨h1.1,by rw [sget_ne (by have:=h2 j rfl; omega)]; exact h1.2.1,h1.2.2⟩) (by simp [gview,sget_eq]) (by simp; omega) (c1 + 1)
  refine run_app hq (by decide) ?_
  refine zv (.rsl (c1 + 1) 0 (l ++ [UInt8.ofNat k]).length) ?_
  refine wS ?_
  rw [← h3,nb_lo hk8]
  exact endR (i:=c1 + 1) (u:=2) rfl rfl rfl (sget_eq rfl) (imm_bytes _) (.inr rfl)

theorem number04_fn (gl:List (Nat × List G)) (n:Int) (hn:Is64 n):FnR Tryz.prog gl 26 [vI n] 5 (nb (zig n)).length ((nb (zig n)).map gY):=by
 have hz:=zig_lt hn
 have hF:=num04_fn gl (zig n) hz
 unfold Is64 at hn
 refine fnr_enter Tryz.func26 rfl (by simp [Tryz.ntmps26]) (Ex.tr ?_)
 simp only [St.enter,enterFr,Tryz.ntmps26]
 refine wS ?_
 refine zv (.lit (.slice none 0 0)) ?_
 refine wS ?_
 refine zv (vI n) ?_
 refine run_bin rfl rfl ltI (by decide) ?_
 refine wS ?_
 refine ex_condP (p:=n < 0) rfl (fun h => ?_) (fun h => ?_)
 ·obtain ⟨m,hm⟩:∃ m:Nat,(m:Int) = -(n + 1):=⟨(-(n + 1)).toNat,by omega⟩
  have e:zig n = m * 2 + 1:=by unfold zig; rw [if_pos h,← hm]; simp
  rw [e] at hF
  refine wS ?_
  refine zv (vI n) ?_
  refine run_bin rfl rfl (addI (b:=1) (by unfold Is64; omega)) (by decide) ?_
  refine run_un rfl (negI (by unfold Is64; omega)) (by decide) ?_
  rw [← hm]
  refine run_conv (Eq.trans (by kernel_rfl) (cvU (k:=.u64) (n:=m) (by omega))) (by decide) ?_
  refine run_bin rfl rfl (mulU (b:=2) (by omega)) (by decide) ?_
  refine run_bin rfl rfl (addU (b:=1) (by omega)) (by decide) ?_
  refine run_cR hF (by kernel_rfl) (by decide) rfl (im1 (imm_lit _)) (imm_bytes _) (fun i ob h => by cases h) ?_
  refine zv (.rsl 0 0 (nb (m * 2 + 1)).length) ?_
  refine wS ?_
  rw [e]
  exact endR (i:=0) (u:=2) rfl rfl rfl (sget_eq rfl) (imm_bytes _) (.inr rfl)
 ·obtain ⟨m,hm⟩:∃ m:Nat,n = m:=⟨n.toNat,by omega⟩
  have e:zig n = m * 2:=by unfold zig; rw [if_neg h,hm]; simp
  rw [e] at hF
  subst hm
  refine wS ?_
  refine zv (vI m) ?_
  refine run_conv (Eq.trans (by kernel_rfl) (cvU (k:=.u64) (n:=m) (by omega))) (by decide) ?_
  refine run_bin rfl rfl (mulU (b:=2) (by omega)) (by decide) ?_
  refine run_cR hF (by kernel_rfl) (by decide) rfl (im1 (imm_lit _)) (imm_bytes _) (fun i ob h => by cases h) ?_
  refine zv (.rsl 0 0 (nb (m * 2)).length) ?_
  refine wS ?_
  rw [e]
  exact endR (i:=0) (u:=2) rfl rfl rfl (sget_eq rfl) (imm_bytes _) (.inr rfl)

abbrev obB (l:List UInt8):Ob:=⟨5,l.map gY,none⟩
set_option maxHeartbeats 1000000 in
theorem ident04_fn (gl:List (Nat × List G)) (a b:Int) (c:Nat) (ha:Is64 a) (hb:Is64 b) (hc:c < 18446744073709551616):FnR Tryz.prog gl 29 [vId a b c] 5 (idB a b c).length ((idB a b c).map gY):=by
 have hA:=number04_fn gl a ha
 have hB:=number04_fn gl b hb
 have hC:=num04_fn gl c hc
 have la:=nb_len64 (zig_lt ha)
 have lb:=nb_len64 (zig_lt hb)
 have lc:=nb_len64 hc
 unfold idB
 generalize nb (zig a) = xa at *
 generalize nb (zig b) = xb at *
 generalize nb c = xc at *
 refine fnr_enter Tryz.func29 rfl (by simp [Tryz.ntmps29]) (Ex.tr ?_)
 simp only [St.enter,enterFr,Tryz.ntmps29]
 refine wS ?_
 refine run_box (cells_id a b c) (by decide) ?_
 refine zv (.lit (.slice none 0 0)) ?_
 refine wS ?_
 refine Ex.le ?_ (le_addResv 1 _)
 refine ex_region_draw4 (inf:=[dR,.rd [0] (fun _ => false),.wr [] [(2,some (obB xa))] [(2,none)] true,dR,.rd [0] (fun _ => false),.wr [] [(3,some (obB xb))] [(3,none)] true,.wr [1,2,3] [(1,some (obB (xa ++ xb))),(2,none)] [(1,some resvOb),(2,some (obB xa))] false,dR]) mixed (by kernel_rfl) ?_
 dsimp only [addResv]
 refine rf_v (d:=4) (g:=.ref 0 0) rfl rfl (by show 4 < 16; decide) (by kernel_rfl) (fun t x h => by cases h) ?_
 refine rf_ld (i:=0) (k:=0) (g:=vI a) (by show 5 < 16; decide) rfl (by kernel_rfl) ?_
 refine rf_cr rfl rfl hA (by kernel_rfl) (by show 6 < 16; decide) rfl (im1 (imm_lit _)) (imm_lits _) ?_
 refine rf_v (d:=7) (g:=.ref 0 1) rfl rfl (by show 7 < 16; decide) (by kernel_rfl) (fun t x h => by cases h) ?_
 refine rf_ld (i:=0) (k:=1) (g:=vI b) (by show 8 < 16; decide) rfl (by kernel_rfl) ?_
 refine rf_cr rfl rfl hB (by kernel_rfl) (by show 9 < 16; decide) rfl (im1 (imm_lit _)) (imm_lits _) ?_
 obtain ⟨q,hq,hq2⟩:=rowb_app (σ:=[(3,some (obB xb)),(2,some (obB xa)),(1,some resvOb),(0,some ⟨61,[vI a,vI b,vU c],none⟩)]) (g:=.rsl 2 0 xa.length) (l:=xa) (r:=some 2) (gy:=.rsl 3 0 xb.length) (m:=xb) ⟨rfl,rfl,by simp⟩ (by simp [gview,sget_eq]; rw [List.take_of_length_le (by simp)]) (by omega) 4
 obtain rfl:q = 2:=by
  rcases hq2 with rfl | h
  ·simp [gapp,gsrc] at hq
  ·cases h; rfl
 refine rf_w (d:=10) (g:=.rsl 1 0 (xa ++ xb).length) (U:=[(1,some (obB (xa ++ xb))),(2,none)]) (R:=[1,2,3]) 1 rfl rfl rfl (by show 10 < 16; decide) rfl (xeff_app (x:=.tmp 6) (y:=.tmp 9) (k:=1) (i:=2) (n:=xa.length) rfl rfl rfl rfl hq) ?_
 refine rf_v (d:=3) (g:=.rsl 1 0 (xa ++ xb).length) rfl rfl (by show 3 < 16; decide) (by kernel_rfl) (fun t x h => by cases h) ?_
 apply rf_nil
 apply thn_n
 refine Ex.le (st':=⟨16,gl,[(1,.ref 0 0),(3,.rsl 1 0 (xa ++ xb).length)],[(1,some (obB (xa ++ xb))),(2,none),(3,some (obB xb)),(2,some (obB xa)),(1,some resvOb),(0,some ⟨61,[vI a,vI b,vU c],none⟩)],4,0,false⟩) ?_ (le_frs (by repeat' (first|exact ⟨⟩|refine ⟨rfl,?_⟩)))
 refine wS ?_
 refine zv (.rsl 1 0 (xa ++ xb).length) ?_
 refine zv (.ref 0 2) ?_
 refine zv (vU c) ?_
 refine run_cR hC (by kernel_rfl) (by decide) rfl (im1 (imm_lit _)) (imm_bytes _) (fun i ob h => ?_) ?_
 ·rcases Nat.lt_or_ge i 4 with h4 | h4
  ·exact h4
  ·rw [sget_ne (by omega),sget_ne (by omega),sget_ne (by omega),sget_ne (by omega),sget_ne (by omega),sget_ne (by omega)] at h
   cases h
 obtain ⟨q,hq,hq2⟩:=rowb_app (σ:=[(4,some (obB xc)),(1,some (obB (xa ++ xb))),(2,none),(3,some (obB xb)),(2,some (obB xa)),(1,some resvOb),(0,some ⟨61,[vI a,vI b,vU c],none⟩)]) (g:=.rsl 1 0 (xa ++ xb).length) (l:=xa ++ xb) (r:=some 1) (gy:=.rsl 4 0 xc.length) (m:=xc) ⟨rfl,rfl,by simp⟩ (by simp [gview,sget_eq]; rw [List.take_of_length_le (by simp)]) (by simp; omega) 5
 refine run_app hq (by decide) ?_
 refine zv (.rsl 5 0 (xa ++ xb ++ xc).length) ?_
 refine wS ?_
 exact endR (i:=5) (u:=2) rfl rfl rfl (sget_eq rfl) (imm_bytes _) (.inr rfl)
end
section
open Go.RowKit
attribute [local irreducible] Tr Run RunD GS TG Le Wk Frz Fn' ImmG Flat WkFr WkSt EndM Ex EndX McK
theorem gb_and1 {a:Nat} {x y:Operand} {t:TypeId} {P:Program}:gbin P .and t x y (.lit (.int .u64 (a:Int))) (.lit (.int .u64 1)) = some (vU (a % 2)):=by
 have h:=and_mod a 1 (by omega)
 have e:((2 ^ 1 - 1:Nat):Int) = 1:=by decide
 rw [e] at h
 rw [gb_and,h,wu64 (by omega)]
theorem gb_shr1 {a:Nat} {x y:Operand} {t:TypeId} {P:Program}:gbin P .shr t x y (.lit (.int .u64 (a:Int))) (.lit (.int .u64 1)) = some (vU (a / 2)):=by
 rw [show (1:Int) = ((1:Nat):Int) from rfl,gb_shr 1 (by decide)]
 have:(a:Int).fdiv (2 ^ 1) = ((a / 2:Nat):Int):=by
  rw [Int.fdiv_eq_ediv_of_nonneg _ (by decide)]
  have e:(2:Int) ^ 1 = 2:=by decide
  rw [e]; omega
 rw [this]
theorem unfold_fn (gl:List (Nat × List G)) (u:Nat) (hu:u < 18446744073709551616):Fn' Tryz.prog gl 72 [vU u] (vI (zag u)):=by
 refine fn_enter Tryz.func72 rfl (by simp [Tryz.ntmps72]) (Ex.tr ?_)
 simp only [St.enter,enterFr,Tryz.ntmps72]
 refine wS ?_
 refine zv (vI 0) ?_
 refine wS ?_
 refine zv (vU u) ?_
 refine run_bin rfl rfl gb_shr1 (by decide) ?_
 refine run_conv (Eq.trans (by kernel_rfl) (cvI (a:=((u / 2:Nat):Int)) (by unfold Is64; omega))) (by decide) ?_
 refine zv (vU u) ?_
 refine run_bin rfl rfl gb_and1 (by decide) ?_
 refine run_conv (Eq.trans (by kernel_rfl) (cvI (a:=((u % 2:Nat):Int)) (by unfold Is64; omega))) (by decide) ?_
 refine run_un rfl (negI (by unfold Is64; omega)) (by decide) ?_
 refine run_bin rfl rfl (zag_x hu) (by decide) ?_
 refine zv (vI (zag u)) ?_
 refine wS ?_
 exact ended_r rfl (frz_int rfl)
abbrev inO (j n at':Nat) (e:Int):Ob:=⟨142,[.rsl j 0 n,vI at',vI e],none⟩
def curOf (L:List UInt8) (at':Nat) (e:Int):Cur:=if e = 0 then .ok (L.drop at') else .error e
theorem curOf_ok {L:List UInt8} {k:Nat}:curOf L k 0 = .ok (L.drop k):=by simp [curOf]
theorem curOf_err {L:List UInt8} {k:Nat} {e:Int} (h:e ≠ 0):curOf L k e = .error e:=by simp [curOf,h]
theorem in_ld {σ:Sto} {i j n at':Nat} {e:Int} (h:sget σ i = some (inO j n at' e)):gload Tryz.prog σ 22 (.ref i 0) = some (.rsl j 0 n) ∧ gload Tryz.prog σ 3 (.ref i 1) = some (vI at') ∧ gload Tryz.prog σ 43 (.ref i 2) = some (vI e):=by
 simp only [gload,h]
 exact ⟨by kernel_rfl,by kernel_rfl,by kernel_rfl⟩
theorem in_st1 {σ:Sto} {i j n at':Nat} {e:Int} {a:Nat} (h:sget σ i = some (inO j n at' e)):gsto Tryz.prog σ 3 (.ref i 1) (vI a) = some (i,inO j n a e):=by
 simp only [gsto,h]
 kernel_rfl
theorem in_st2 {σ:Sto} {i j n at':Nat} {e a:Int} (h:sget σ i = some (inO j n at' e)):gsto Tryz.prog σ 43 (.ref i 2) (vI a) = some (i,inO j n at' a):=by
 simp only [gsto,h]
 kernel_rfl
theorem wrong_mc (gl:List (Nat × List G)) (i j n at' a:Nat) (e e2:Int) (σ:Sto) (c:Nat) (h:sget σ i = some (inO j n at' e)) :
  McK Tryz.prog gl 75 [.ref i 0,vI e2,vI a] σ c (.tup []) ((i,some (inO j n a e2)) :: σ) c:=by
 have hM:Mc Tryz.prog gl 75 [.ref i 0,vI e2,vI a] σ c (fun r σ' c' => r = .tup [] ∧ c' = c ∧ ∀ k,sget σ' k = sget ((i,some (inO j n a e2)) :: σ) k):=by
  refine mc_enter (by kernel_rfl) Tryz.func75 rfl (by simp [Tryz.ntmps75]) ?_
  simp only [enterFr,Tryz.ntmps75]
  refine wS ?_
  refine zv (.ref i 0) ?_
  refine zv (.ref i 0) ?_
  refine zv (vI e2) ?_
  refine zv (vI a) ?_
  refine zv (.ref i 0) ?_
  refine zv (.ref i 2) ?_
  refine run_sto (in_st2 h) ?_
  refine zv (.ref i 0) ?_
  refine zv (.ref i 1) ?_
  refine run_sto (in_st1 (sget_eq rfl)) ?_
  refine wS ?_
  refine endx (.inl rfl) (gs:=[]) rfl ⟨rfl,rfl,fun k => ?_⟩
  simp only [sget_cons]
  split <;> rfl
 obtain ⟨r,σ',c',⟨rfl,rfl,h1⟩,hM⟩:=hM
 exact hM.ext h1

theorem shlK {P:Program} {x y:Operand} {t:TypeId} {k k':IntKind} {a:Int} (n:Nat) (hn:n ≤ k.bits):gbin P .shl t x y (.lit (.int k a)) (.lit (.int k' (n:Int))) = some (.lit (.int k (k.wrap (a * 2 ^ n)))):=by
 have h1:¬ ((n:Int) < 0):=by omega
 have h2:min n k.bits = n:=Nat.min_eq_left hn
 simp [gbin,gval,eqGuard,binOp,Op.shift,glit,h2,if_neg h1]
 exact ⟨_,rfl,rfl⟩
theorem orU {P:Program} {x y:Operand} {t:TypeId} {a b:Nat} (ha:a < 18446744073709551616) (hb:b < 18446744073709551616):gbin P .or t x y (vU a) (vU b) = some (vU (a ||| b)):=by
 rw [gb_or]
 have h:(BitVec.ofInt IntKind.u64.bits (a:Int) ||| BitVec.ofInt IntKind.u64.bits (b:Int)).toNat = a ||| b:=by
  show (BitVec.ofInt 64 (a:Int) ||| BitVec.ofInt 64 (b:Int)).toNat = _
  rw [BitVec.ofInt_natCast,BitVec.ofInt_natCast,BitVec.toNat_or,BitVec.toNat_ofNat,BitVec.toNat_ofNat,Nat.mod_eq_of_lt ha,Nat.mod_eq_of_lt hb]
 have hlt:a ||| b < 2 ^ 64:=Nat.or_lt_two_pow ha hb
 rw [h,wu64 (by omega)]
theorem or_add {u v n:Nat} (h:u < 2 ^ n):u ||| (v * 2 ^ n) = u + v * 2 ^ n:=by
 have:=Nat.two_pow_add_eq_or_of_lt h v
 rw [Nat.mul_comm v,Nat.or_comm,← this]; omega
theorem view_at {σ:Sto} {j k:Nat} {L:List UInt8} {x:UInt8} (hj:sget σ j = some (⟨5,L.map gY,none⟩:Ob)) (hx:L[k]? = some x):gindex Tryz.prog 22 (.rsl j 0 L.length) (k:Int) = some (.ref j k) ∧ gload Tryz.prog σ 5 (.ref j k) = some (gY x):=by
 have hk:=(List.getElem?_eq_some_iff.1 hx).1
 constructor
 ·simp only [gindex]
  rw [show telem Tryz.prog 22 = some 5 by kernel_rfl]
  simp only []
  rw [show tsize Tryz.prog 5 = some 1 by kernel_rfl]
  simp only [Option.bind_some]
  rw [if_pos (by omega)]
  simp
 ·simp only [gload,hj,Option.bind_some]
  unfold gpart
  rw [show tagg Tryz.prog 5 = some false by kernel_rfl,show tsize Tryz.prog 5 = some 1 by kernel_rfl]
  simp only []
  rw [List.getElem?_map,hx]
  rfl
def badN (k x:Nat):Bool:=decide ((k = 9 ∧ 1 < x) ∨ (x = 0 ∧ 0 < k))
theorem ltY {P:Program} {x y:Operand} {t:TypeId} {a:UInt8} {b:Nat}:gbin P .lss t x y (gY a) (.lit (.int .u8 (b:Int))) = some (vB (decide (a.toNat < b))):=by rw [gb_lss]; congr 3; exact decide_eq_decide.2 (by omega)
theorem gtY {P:Program} {x y:Operand} {t:TypeId} {a:UInt8} {b:Nat}:gbin P .gtr t x y (gY a) (.lit (.int .u8 (b:Int))) = some (vB (decide (b < a.toNat))):=by rw [gb_gtr]; congr 3; exact decide_eq_decide.2 (by omega)
theorem eqY {P:Program} {x y:Operand} {t:TypeId} {a:UInt8} {b:Nat}:gbin P .eql t x y (gY a) (.lit (.int .u8 (b:Int))) = some (vB (decide (a.toNat = b))):=by rw [gb_eql]; congr 3; exact decide_eq_decide.2 (by omega)
theorem remY {P:Program} {x y:Operand} {t:TypeId} {a:UInt8}:gbin P .rem t x y (gY a) (.lit (.int .u8 128)) = some (.lit (.int .u8 ((a.toNat % 128:Nat):Int))):=by rw [gb_rem (by decide),Int.tmod_eq_emod_of_nonneg (by omega)]; rfl
set_option maxHeartbeats 4000000 in
theorem number_mc (gl:List (Nat × List G)) (i j at':Nat) (L:List UInt8) (e:Int) (σ:Sto) (c:Nat) (hij:i ≠ j) (h:sget σ i = some (inO j L.length at' e)) (hj:sget σ j = some ⟨5,L.map gY,none⟩) (hat:at' ≤ L.length) (hL:L.length ≤ 1000000000000) :
  ∃ (a2:Nat) (e2:Int),a2 ≤ L.length ∧ curOf L a2 e2 = (cNum (curOf L at' e)).2 ∧ McK Tryz.prog gl 73 [.ref i 0] σ c (vU (cNum (curOf L at' e)).1) ((i,some (inO j L.length a2 e2)) :: σ) c:=by
 suffices hM:Mc Tryz.prog gl 73 [.ref i 0] σ c (fun r σ' c' => ∃ (a2:Nat) (e2:Int),a2 ≤ L.length ∧ curOf L a2 e2 = (cNum (curOf L at' e)).2 ∧ r = vU (cNum (curOf L at' e)).1 ∧ c' = c ∧ ∀ k,sget σ' k = sget ((i,some (inO j L.length a2 e2)) :: σ) k) by
  obtain ⟨r,σ',c',⟨a2,e2,h1,h2,rfl,rfl,h3⟩,hM⟩:=hM
  exact ⟨a2,e2,h1,h2,hM.ext h3⟩
 obtain ⟨l0,l1,l2⟩:=in_ld h
 refine mc_enter (by kernel_rfl) Tryz.func73 rfl (by simp [Tryz.ntmps73]) ?_
 simp only [enterFr,Tryz.ntmps73]
 refine wS ?_
 refine zv (vU 0) ?_
 refine wS ?_
 refine zv (.ref i 0) ?_
 refine zv (.ref i 0) ?_
 refine zv (.ref i 1) ?_
 refine zt (vI at') l1 ?_
 refine zv (vI at') ?_
 refine wS ?_
 refine zv (vU 0) ?_
 refine wS ?_
 refine zv (vI ((0:Nat):Int)) ?_
 refine wS ?_
 refine ex_loop (fun m s => ∃ (σ1:Sto) (k u a:Nat),s = ⟨76,gl,[(0,.ref i 0),(3,vI at'),(4,vU u),(5,vI (k:Int))],σ1,c,c,false⟩ ∧ m = 10 - k ∧ k ≤ 9 ∧ u < 2 ^ (7 * k) ∧ a ≤ L.length ∧ (∀ q,sget σ1 q = sget ((i,some (inO j L.length a e)) :: σ) q) ∧ (k = 0 → u = 0 ∧ a = at') ∧ (e = 0 → rdN 0 (L.drop at') = match rdN k (L.drop a) with | .error e => .error e | .ok q => .ok (u + 2 ^ (7 * k) * q.1,q.2)) ∧ (e ≠ 0 → k = 0)) 10 (le_frs (fr':=[(0,.ref i 0),(3,vI at'),(4,vU 0),(5,vI ((0:Nat):Int))]) (by repeat' (first|exact ⟨⟩|refine ⟨rfl,?_⟩))) ⟨σ,0,0,at',rfl,rfl,by omega,by simp,hat,fun q => ?_,fun _ => ⟨rfl,rfl⟩,fun _ => ?_,fun _ => rfl⟩ ?_
 ·rw [sget_cons]
  split
  ·rename_i hq; rw [← hq,h]
  ·rfl
 ·cases hq:rdN 0 (L.drop at') with
  | error e => rfl
  | ok q => simp
 rintro m s ⟨σ1,k,u,a,rfl,rfl,hk,hu,ha,hs,hk0,hrd,hek⟩
 have hi1:sget σ1 i = some (inO j L.length a e):=by rw [hs,sget_eq rfl]
 have hj1:sget σ1 j = some ⟨5,L.map gY,none⟩:=by rw [hs,sget_ne hij,hj]
 obtain ⟨l0,l1,l2⟩:=in_ld hi1
 refine wS ?_
 refine zv (.ref i 0) ?_
 refine zv (.ref i 0) ?_
 refine zv (.ref i 2) ?_
 refine zt (vI e) l2 ?_
 refine run_bin rfl rfl eqI (by decide) ?_
 refine wS ?_
 refine ex_condP (p:=e = 0) rfl (fun he => ?_) (fun he => ?_)
 rotate_left
 ·have hk':=hek he
  obtain ⟨rfl,rfl⟩:=hk0 hk'
  refine wS ?_
  refine zv (vU 0) ?_
  refine wS ?_
  refine endx (.inr rfl) (gs:=[vU 0]) (by kernel_rfl) ⟨a,e,ha,?_,?_,rfl,hs⟩
  ·rw [curOf_err he]; rfl
  ·rw [curOf_err he]; rfl
 ·subst he
  have hrd:=hrd rfl
  rw [curOf_ok]
  have hsk:∀ (o:Option Ob),∀ q,sget ((i,o) :: σ1) q = sget ((i,o) :: σ) q:=fun o q => by
   rw [sget_cons,sget_cons]
   split
   ·rfl
   ·rw [hs,sget_ne (by assumption)]
  refine wS ?_
  refine ex_region_draw (bars:=[]) mixed (by kernel_rfl) ?_
  refine zd (.ref i 0) ?_
  refine zd (.ref i 0) ?_
  refine zd (.ref i 1) ?_
  refine rund_v (g:=vI a) (Eq.trans (by kernel_rfl) l1) (by decide) ?_
  refine zd (.ref i 0) ?_
  refine zd (.ref i 0) ?_
  refine zd (.ref i 0) ?_
  refine rund_v (g:=.rsl j 0 L.length) (Eq.trans (by kernel_rfl) l0) (by decide) ?_
  refine zd (vI L.length) ?_
  refine rund_bin rfl rfl eqI (by decide) ?_
  apply rund_nil
  apply thn_n
  refine ex_condP (p:=(a:Int) = L.length) rfl (fun hend => ?_) (fun hend => ?_)
  ·have hd:L.drop a = []:=List.drop_of_length_le (by omega)
   rw [hd] at hrd
   have hM:=wrong_mc gl i j L.length a at' 0 9 σ1 c hi1
   refine wS ?_
   refine zv (.ref i 0) ?_
   refine zv (vI at') ?_
   refine run_m hM [] [] (by kernel_rfl) (by kernel_rfl) (by decide) ?_
   refine wS ?_
   refine zv (vU 0) ?_
   refine wS ?_
   have e1:cNum (.ok (L.drop at')) = (0,.error 9):=by
    simp only [cNum,hrd,rdN]
   rw [e1]
   exact endx (.inr rfl) (gs:=[vU 0]) (by kernel_rfl) ⟨at',9,hat,curOf_err (by decide),rfl,rfl,hsk _⟩
  ·have halt:a < L.length:=by omega
   obtain ⟨x,hx⟩:∃ x,L[a]? = some x:=⟨_,List.getElem?_eq_getElem halt⟩
   have hd:L.drop a = x :: L.drop (a + 1):=by
    rw [List.drop_eq_getElem_cons halt]
    rw [List.getElem?_eq_getElem halt] at hx
    cases hx; rfl
   rw [hd,rdN] at hrd
   obtain ⟨v1,v2⟩:=view_at hj1 hx
   have hxlt:=x.toNat_lt
   refine wS ?_
   refine ex_region_draw (bars:=[]) mixed (by kernel_rfl) ?_
   refine zd (.ref i 0) ?_
   refine zd (.ref i 0) ?_
   refine zd (.ref i 0) ?_
   refine rund_v (g:=.rsl j 0 L.length) (Eq.trans (by kernel_rfl) l0) (by decide) ?_
   refine zd (.ref i 0) ?_
   refine zd (.ref i 0) ?_
   refine zd (.ref i 1) ?_
   refine rund_v (g:=vI a) (Eq.trans (by kernel_rfl) l1) (by decide) ?_
   refine rund_v (g:=.ref j a) (Eq.trans (by kernel_rfl) v1) (by decide) ?_
   refine rund_v (g:=gY x) (Eq.trans (by kernel_rfl) v2) (by decide) ?_
   refine zd (gY x) ?_
   apply rund_nil
   refine wS ?_
   refine zv (.ref i 0) ?_
   refine zv (.ref i 0) ?_
   refine zv (.ref i 1) ?_
   refine zt (vI a) l1 ?_
   refine run_bin (g:=vI ((a + 1:Nat):Int)) rfl rfl (addI (b:=1) (by unfold Is64; omega)) (by decide) ?_
   refine zv (.ref i 0) ?_
   refine zv (.ref i 1) ?_
   refine run_sto (in_st1 hi1) ?_
   refine wN ?_
   refine ex_region_k (fun s => ∃ fr',s = ⟨76,gl,fr',(i,some (inO j L.length (a + 1) 0)) :: σ1,c,c,false⟩ ∧ FrOk fr' [(0,.ref i 0),(3,vI at'),(4,vU u),(5,vI (k:Int)),(6,gY x),(61,vB (badN k x.toNat))]) ?_ ?_
   ·refine zv (vI k) ?_
    refine run_bin rfl rfl eqI (by decide) ?_
    refine zv (vB (decide ((k:Int) = 9))) ?_
    have tail:∀ fr,fget fr 0 = .ref i 0 → fget fr 3 = vI at' → fget fr 4 = vU u → fget fr 5 = vI (k:Int) → fget fr 6 = gY x → ∀ b,fget fr 61 = vB b → b = badN k x.toNat → FrOk fr [(0,.ref i 0),(3,vI at'),(4,vU u),(5,vI (k:Int)),(6,gY x),(61,vB (badN k x.toNat))]:=fun fr h0 h3 h4 h5 h6 b h61 hb => ⟨h0,h3,h4,h5,h6,hb ▸ h61,trivial⟩
    have last:(k = 9 → ¬ 1 < x.toNat) → (decide (x.toNat = 0) && decide (0 < k)) = badN k x.toNat:=fun h9 => by
     unfold badN
     rw [← Bool.decide_and]
     exact decide_eq_decide.2 ⟨fun h => .inr h,fun h => h.resolve_left fun h => h9 h.1 h.2⟩
    by_cases h9:(k:Int) = 9
    ·rw [decide_eq_true h9]
     refine zg (gY x) ?_
     refine ged_bin (by kernel_rfl) rfl rfl (gtY (b:=1)) (by decide) ?_
     refine zv (vB (decide (1 < x.toNat))) ?_
     refine zv (vB (decide (1 < x.toNat))) ?_
     by_cases h1:1 < x.toNat
     ·rw [decide_eq_true h1]
      iterate 3 refine zn ?_
      iterate 2 refine zn ?_
      refine zn ?_
      refine zv (vB true) ?_
      exact run_nil ⟨_,rfl,tail _ rfl rfl rfl rfl rfl _ rfl (by unfold badN; rw [decide_eq_true]; exact .inl ⟨by omega,h1⟩)⟩
     ·rw [decide_eq_false h1]
      refine zg (gY x) ?_
      refine ged_bin (by kernel_rfl) rfl rfl (eqY (b:=0)) (by decide) ?_
      refine zg (vB (decide (x.toNat = 0))) ?_
      have e1:=last (fun _ => h1)
      by_cases h2:x.toNat = 0
      ·rw [decide_eq_true h2] at e1 ⊢
       refine zg (vI k) ?_
       refine ged_bin (by kernel_rfl) rfl rfl (gtI (b:=0)) (by decide) ?_
       refine zg (vB (decide ((0:Int) < k))) ?_
       refine zv (vB (decide ((0:Int) < k))) ?_
       exact run_nil ⟨_,rfl,tail _ rfl rfl rfl rfl rfl _ rfl (by rw [← e1,Bool.true_and]; exact decide_eq_decide.2 (by omega))⟩
      ·rw [decide_eq_false h2] at e1 ⊢
       iterate 2 refine zn ?_
       refine zg (vB false) ?_
       refine zv (vB false) ?_
       exact run_nil ⟨_,rfl,tail _ rfl rfl rfl rfl rfl _ rfl (by rw [← e1,Bool.false_and])⟩
    ·rw [decide_eq_false h9]
     iterate 2 refine zn ?_
     refine zv (vB false) ?_
     refine zv (vB false) ?_
     refine zg (gY x) ?_
     refine ged_bin (by kernel_rfl) rfl rfl (eqY (b:=0)) (by decide) ?_
     refine zg (vB (decide (x.toNat = 0))) ?_
     have e1:=last (fun h => by omega)
     by_cases h2:x.toNat = 0
     ·rw [decide_eq_true h2] at e1 ⊢
      refine zg (vI k) ?_
      refine ged_bin (by kernel_rfl) rfl rfl (gtI (b:=0)) (by decide) ?_
      refine zg (vB (decide ((0:Int) < k))) ?_
      refine zv (vB (decide ((0:Int) < k))) ?_
      exact run_nil ⟨_,rfl,tail _ rfl rfl rfl rfl rfl _ rfl (by rw [← e1,Bool.true_and]; exact decide_eq_decide.2 (by omega))⟩
     ·rw [decide_eq_false h2] at e1 ⊢
      iterate 2 refine zn ?_
      refine zg (vB false) ?_
      refine zv (vB false) ?_
      exact run_nil ⟨_,rfl,tail _ rfl rfl rfl rfl rfl _ rfl (by rw [← e1,Bool.false_and])⟩
   ·rintro s ⟨fr',rfl,hfr⟩
    apply thn_n
    refine Ex.le ?_ (le_frs hfr)
    refine ex_condB (t:=badN k x.toNat) rfl (fun hb => ?_) (fun hb => ?_)
    ·have hM:=wrong_mc gl i j L.length (a + 1) at' 0 7 ((i,some (inO j L.length (a + 1) 0)) :: σ1) c (sget_eq rfl)
     refine wS ?_
     refine zv (.ref i 0) ?_
     refine zv (vI at') ?_
     refine run_m hM [] [] (by kernel_rfl) (by kernel_rfl) (by decide) ?_
     refine wS ?_
     refine zv (vU 0) ?_
     refine wS ?_
     have e1:cNum (.ok (L.drop at')) = (0,.error 7):=by
      rw [if_pos (of_decide_eq_true hb)] at hrd
      simp only [cNum,hrd]
     rw [e1]
     refine endx (.inr rfl) (gs:=[vU 0]) (by kernel_rfl) ⟨at',7,hat,curOf_err (by decide),rfl,rfl,fun q => ?_⟩
     rw [← hsk,sget_cons,sget_cons,sget_cons]
     split <;> rfl
    ·have hb':=of_decide_eq_false hb
     rw [if_neg hb'] at hrd
     have e7:(7:Int) * (k:Int) = ((7 * k:Nat):Int):=by omega
     have hx0:((x.toNat % 128:Nat):Int) * 2 ^ (7 * k) = ((x.toNat % 128 * 2 ^ (7 * k):Nat):Int):=by push_cast; rfl
     have hp:2 ^ (7 * k) ≤ 2 ^ 63:=Nat.pow_le_pow_right (by omega) (by omega)
     have hm:x.toNat % 128 * 2 ^ (7 * k) < 18446744073709551616:=by
      by_cases h9:k = 9
      ·subst h9
       have:x.toNat ≤ 1:=by omega
       have:x.toNat % 128 ≤ 1:=by omega
       calc x.toNat % 128 * 2 ^ (7 * 9) ≤ 1 * 2 ^ (7 * 9):=Nat.mul_le_mul_right _ this
        _ < 18446744073709551616:=by decide
      ·have:2 ^ (7 * k) ≤ 2 ^ 56:=Nat.pow_le_pow_right (by omega) (by omega)
       calc x.toNat % 128 * 2 ^ (7 * k) ≤ 127 * 2 ^ 56:=Nat.mul_le_mul (by omega) this
        _ < 18446744073709551616:=by decide
     refine wS ?_
     refine zv (vU u) ?_
     refine zv (gY x) ?_
     refine run_bin rfl rfl remY (by decide) ?_
     refine run_conv (Eq.trans (by kernel_rfl) (cvU (k:=.u64) (n:=x.toNat % 128) (by omega))) (by decide) ?_
     refine zv (vI k) ?_
     refine run_bin (g:=vI ((7 * k:Nat):Int)) rfl rfl (mulI (a:=7) (b:=k) (by unfold Is64; omega)) (by decide) ?_
     refine run_bin rfl rfl (shlK (7 * k) (by show 7 * k ≤ 64; omega)) (by decide) ?_
     rw [hx0,wu64 (by omega)]
     have hor:=or_add (v:=x.toNat % 128) hu
     have hu64:u < 18446744073709551616:=Nat.lt_of_lt_of_le hu (Nat.le_trans hp (by decide))
     refine run_bin (g:=vU (u + x.toNat % 128 * 2 ^ (7 * k))) rfl rfl (by rw [← hor]; exact orU hu64 hm) (by decide) ?_
     refine zv (vU (u + x.toNat % 128 * 2 ^ (7 * k))) ?_
     refine wS ?_
     refine zv (gY x) ?_
     refine run_bin rfl rfl (ltY (b:=128)) (by decide) ?_
     refine wS ?_
     refine ex_condP (p:=x.toNat < 128) rfl (fun hlo => ?_) (fun hlo => ?_)
     ·have hmod:x.toNat % 128 = x.toNat:=Nat.mod_eq_of_lt hlo
      rw [if_pos hlo] at hrd
      refine wS ?_
      refine zv (vU (u + x.toNat % 128 * 2 ^ (7 * k))) ?_
      refine zv (vU (u + x.toNat % 128 * 2 ^ (7 * k))) ?_
      refine wS ?_
      have e1:cNum (.ok (L.drop at')) = (u + x.toNat % 128 * 2 ^ (7 * k),.ok (L.drop (a + 1))):=by
       simp only [cNum,hrd]
       rw [hmod,Nat.mul_comm]
      rw [e1]
      exact endx (.inr rfl) (gs:=[vU (u + x.toNat % 128 * 2 ^ (7 * k))]) (by kernel_rfl) ⟨a + 1,0,by omega,curOf_ok,rfl,rfl,hsk _⟩
     ·rw [if_neg hlo] at hrd
      have hk9:k ≠ 9:=fun h9 => hb' (.inl ⟨h9,by omega⟩)
      refine wS ?_
      refine zv (vI k) ?_
      refine run_bin (g:=vI ((k + 1:Nat):Int)) rfl rfl (addI (b:=1) (by unfold Is64; omega)) (by decide) ?_
      refine zv (vI ((k + 1:Nat):Int)) ?_
      refine wS ?_
      have hpow:2 ^ (7 * (k + 1)) = 2 ^ (7 * k) * 128:=by rw [Nat.mul_add,Nat.pow_add]
      refine ⟨10 - (k + 1),_,by omega,le_frs (fr':=[(0,.ref i 0),(3,vI at'),(4,vU (u + x.toNat % 128 * 2 ^ (7 * k))),(5,vI ((k + 1:Nat):Int))]) (by repeat' (first|exact ⟨⟩|refine ⟨rfl,?_⟩)),_,k + 1,_,a + 1,rfl,rfl,by omega,?_,by omega,hsk _,fun h => by omega,fun _ => ?_,fun h => absurd rfl h⟩
      ·rw [hpow]
       have:x.toNat % 128 * 2 ^ (7 * k) ≤ 127 * 2 ^ (7 * k):=Nat.mul_le_mul_right _ (by omega)
       omega
      ·rw [hrd]
       cases hq:rdN (k + 1) (L.drop (a + 1)) with
       | error e => rfl
       | ok q =>
        simp only [Except.ok.injEq,Prod.mk.injEq,and_true]
        rw [hpow,Nat.mul_add,Nat.mul_comm (2 ^ (7 * k)) (x.toNat % 128),Nat.mul_assoc,Nat.add_assoc]
end
section
open Go.RowKit
attribute [local irreducible] Tr Run RunD GS TG Le Wk Frz Fn' ImmG Flat WkFr WkSt EndM Ex EndX McK
structure InAt (σ:Sto) (i j:Nat) (L:List UInt8) (at':Nat) (e:Int):Prop where
 ne:i ≠ j
 i:sget σ i = some (inO j L.length at' e)
 j:sget σ j = some ⟨5,L.map gY,none⟩
 at':at' ≤ L.length
 L:L.length ≤ 1000000000000
theorem InAt.next {σ:Sto} {i j:Nat} {L:List UInt8} {a a2:Nat} {e e2:Int} (h:InAt σ i j L a e) (h2:a2 ≤ L.length):InAt ((i,some (inO j L.length a2 e2)) :: σ) i j L a2 e2:=⟨h.ne,sget_eq rfl,by rw [sget_ne h.ne]; exact h.j,h2,h.L⟩
theorem InAt.of {σ σ':Sto} {i j:Nat} {L:List UInt8} {a:Nat} {e:Int} (h:InAt σ i j L a e) (h1:sget σ' i = sget σ i) (h2:sget σ' j = sget σ j):InAt σ' i j L a e:=⟨h.ne,h1.trans h.i,h2.trans h.j,h.at',h.L⟩
theorem over2 {σ:Sto} {i:Nat} {o o':Option Ob} (k:Nat):sget ((i,o) :: (i,o') :: σ) k = sget ((i,o) :: σ) k:=by
 simp only [sget_cons]
 split <;> rfl
def Reads (gl:List (Nat × List G)) (f:FuncId) (i j:Nat) (L:List UInt8) (σ:Sto) (c:Nat) (xs:List G) (r:G) (s:Cur):Prop:=∃ (a2:Nat) (e2:Int),a2 ≤ L.length ∧ curOf L a2 e2 = s ∧ McK Tryz.prog gl f (.ref i 0 :: xs) σ c r ((i,some (inO j L.length a2 e2)) :: σ) c
theorem reads_enter {gl:List (Nat × List G)} {f:FuncId} {fn:Func} {body:Code} {i j:Nat} {L:List UInt8} {σ:Sto} {c:Nat} {xs:List G} {r:G} {s:Cur} (hc:callable Tryz.prog f = true) (hf:Tryz.prog.funcs[f]? = some fn) (hb:fn.body = some body) (hn:(G.ref i 0 :: xs).length ≤ fn.ntmps)
  (h:Ex Tryz.prog body ⟨fn.ntmps,gl,enterFr 0 (.ref i 0 :: xs),σ,c,c,false⟩ (EndX Tryz.prog fn gl fun v σ' c' => ∃ (a2:Nat) (e2:Int),a2 ≤ L.length ∧ curOf L a2 e2 = s ∧ v = r ∧ c' = c ∧ ∀ k,sget σ' k = sget ((i,some (inO j L.length a2 e2)) :: σ) k)):Reads gl f i j L σ c xs r s:=by
 obtain ⟨v,σ',c',⟨a2,e2,h1,h2,rfl,rfl,h3⟩,hM⟩:=mc_enter hc hf hb hn h
 exact ⟨a2,e2,h1,h2,hM.ext h3⟩
theorem num_rd (gl:List (Nat × List G)) {i j at':Nat} {L:List UInt8} {e:Int} {σ:Sto} (c:Nat) (h:InAt σ i j L at' e):Reads gl 33 i j L σ c [] (vU (cNum (curOf L at' e)).1) (cNum (curOf L at' e)).2:=by
 obtain ⟨a2,e2,h1,h2,hM⟩:=number_mc gl i j at' L e σ c h.ne h.i h.j h.at' h.L
 refine reads_enter (by kernel_rfl) Tryz.func33 rfl (by simp [Tryz.ntmps33]) ?_
 simp only [enterFr,Tryz.ntmps33]
 refine wS ?_
 refine zv (vU 0) ?_
 refine wS ?_
 refine zv (.ref i 0) ?_
 refine zv (.ref i 0) ?_
 refine zv (.ref i 0) ?_
 refine run_m hM [] [] (by kernel_rfl) (by kernel_rfl) (by decide) ?_
 refine zv (vU (cNum (curOf L at' e)).1) ?_
 refine wS ?_
 exact endx (.inr rfl) (gs:=[vU (cNum (curOf L at' e)).1]) (by kernel_rfl) ⟨a2,e2,h1,h2,rfl,rfl,fun _ => rfl⟩
theorem int_rd (gl:List (Nat × List G)) {i j at':Nat} {L:List UInt8} {e:Int} {σ:Sto} (c:Nat) (h:InAt σ i j L at' e):Reads gl 31 i j L σ c [] (vI (cInt (curOf L at' e)).1) (cInt (curOf L at' e)).2:=by
 obtain ⟨a2,e2,h1,h2,hM⟩:=number_mc gl i j at' L e σ c h.ne h.i h.j h.at' h.L
 have hu:=unfold_fn gl _ (cNum_lt (curOf L at' e))
 refine reads_enter (by kernel_rfl) Tryz.func31 rfl (by simp [Tryz.ntmps31]) ?_
 simp only [enterFr,Tryz.ntmps31]
 refine wS ?_
 refine zv (vI 0) ?_
 refine wS ?_
 refine zv (.ref i 0) ?_
 refine zv (.ref i 0) ?_
 refine zv (.ref i 0) ?_
 refine run_m hM [] [] (by kernel_rfl) (by kernel_rfl) (by decide) ?_
 refine run_c hu (by kernel_rfl) (by decide) rfl (im1 (imm_lit _)) ?_
 refine zv (vI (zag (cNum (curOf L at' e)).1)) ?_
 refine wS ?_
 exact endx (.inr rfl) (gs:=[vI (zag (cNum (curOf L at' e)).1)]) (by kernel_rfl) ⟨a2,e2,h1,h2,rfl,rfl,fun _ => rfl⟩
theorem truth_rd (gl:List (Nat × List G)) {i j at':Nat} {L:List UInt8} {e:Int} {σ:Sto} (c:Nat) (h:InAt σ i j L at' e):Reads gl 74 i j L σ c [] (vB (cBool (curOf L at' e)).1) (cBool (curOf L at' e)).2:=by
 obtain ⟨a2,e2,h1,h2,hM⟩:=number_mc gl i j at' L e σ c h.ne h.i h.j h.at' h.L
 obtain ⟨l0,l1,l2⟩:=in_ld h.i
 have hW:=wrong_mc gl i j L.length a2 at' e2 7 ((i,some (inO j L.length a2 e2)) :: σ) c (sget_eq rfl)
 unfold cBool
 generalize (cNum (curOf L at' e)).1 = u at *
 refine reads_enter (by kernel_rfl) Tryz.func74 rfl (by simp [Tryz.ntmps74]) ?_
 simp only [enterFr,Tryz.ntmps74]
 refine wS ?_
 refine zv (vB false) ?_
 refine wS ?_
 refine zv (.ref i 0) ?_
 refine zv (.ref i 0) ?_
 refine zv (.ref i 1) ?_
 refine zt (vI at') l1 ?_
 refine zv (vI at') ?_
 refine wS ?_
 refine zv (.ref i 0) ?_
 refine run_m hM [] [] (by kernel_rfl) (by kernel_rfl) (by decide) ?_
 refine zv (vU u) ?_
 refine wN ?_
 refine ex_region_k (fun s => ∃ fr',s = ⟨22,gl,fr',(i,some (inO j L.length a2 e2)) :: σ,c,c,false⟩ ∧ FrOk fr' [(0,.ref i 0),(3,vI at'),(4,vU u),(16,vB (decide (u ≠ 0 ∧ u ≠ 2)))]) ?_ ?_
 ·refine zv (vU u) ?_
  refine run_bin rfl rfl (neU (b:=0)) (by decide) ?_
  refine zv (vB (decide (u ≠ 0))) ?_
  by_cases h0:u ≠ 0
  ·rw [decide_eq_true h0]
   refine zg (vU u) ?_
   refine ged_bin (by kernel_rfl) rfl rfl (neU (b:=2)) (by decide) ?_
   refine zv (vB (decide (u ≠ 2))) ?_
   refine run_nil ⟨_,rfl,rfl,rfl,rfl,?_,trivial⟩
   exact vBc ⟨fun h => ⟨h0,h⟩,fun h => h.2⟩
  ·rw [decide_eq_false h0]
   iterate 2 refine zn ?_
   refine zv (vB false) ?_
   refine run_nil ⟨_,rfl,rfl,rfl,rfl,?_,trivial⟩
   exact vBf fun h => h0 h.1
 ·rintro s ⟨fr',rfl,hfr⟩
  apply thn_n
  refine Ex.le ?_ (le_frs hfr)
  refine ex_condP (p:=u ≠ 0 ∧ u ≠ 2) rfl (fun hb => ?_) (fun hb => ?_)
  ·refine wS ?_
   refine zv (.ref i 0) ?_
   refine zv (vI at') ?_
   refine run_m hW [] [] (by kernel_rfl) (by kernel_rfl) (by decide) ?_
   refine wS ?_
   refine zv (vB false) ?_
   refine wS ?_
   rw [if_pos hb]
   exact endx (.inr rfl) (gs:=[vB false]) (by kernel_rfl) ⟨at',7,h.at',curOf_err (by decide),rfl,rfl,over2⟩
  ·refine wS ?_
   refine zv (vU u) ?_
   refine run_bin rfl rfl (eqU (b:=2)) (by decide) ?_
   refine zv (vB (decide (u = 2))) ?_
   refine wS ?_
   rw [if_neg hb]
   exact endx (.inr rfl) (gs:=[vB (decide (u = 2))]) (by kernel_rfl) ⟨a2,e2,h1,h2,rfl,rfl,fun _ => rfl⟩
theorem bool_rd (gl:List (Nat × List G)) {i j at':Nat} {L:List UInt8} {e:Int} {σ:Sto} (c:Nat) (h:InAt σ i j L at' e):Reads gl 34 i j L σ c [] (vB (cBool (curOf L at' e)).1) (cBool (curOf L at' e)).2:=by
 obtain ⟨a2,e2,h1,h2,hM⟩:=truth_rd gl c h
 generalize cBool (curOf L at' e) = u at *
 refine reads_enter (by kernel_rfl) Tryz.func34 rfl (by simp [Tryz.ntmps34]) ?_
 simp only [enterFr,Tryz.ntmps34]
 refine wS ?_
 refine zv (vB false) ?_
 refine wS ?_
 refine zv (.clo (.func 74) [] []) ?_
 refine wS ?_
 refine zv (.clo (.func 74) [] []) ?_
 refine zv (.ref i 0) ?_
 refine zv (.ref i 0) ?_
 refine zv (.ref i 0) ?_
 refine run_m hM [] [] (by kernel_rfl) (by kernel_rfl) (by decide) ?_
 refine zv (vB u.1) ?_
 refine wS ?_
 exact endx (.inr rfl) (gs:=[vB u.1]) (by kernel_rfl) ⟨a2,e2,h1,h2,rfl,rfl,fun _ => rfl⟩
theorem many_rd (gl:List (Nat × List G)) {i j at':Nat} {L:List UInt8} {e:Int} {σ:Sto} (c:Nat) (m:Int) (h:InAt σ i j L at' e):Reads gl 35 i j L σ c [vI m] (vI (cMany m (curOf L at' e)).1) (cMany m (curOf L at' e)).2:=by
 obtain ⟨a2,e2,h1,h2,hM⟩:=int_rd gl c h
 obtain ⟨l0,l1,l2⟩:=in_ld h.i
 have hW:=wrong_mc gl i j L.length a2 at' e2 7 ((i,some (inO j L.length a2 e2)) :: σ) c (sget_eq rfl)
 unfold cMany
 generalize cInt (curOf L at' e) = u at *
 obtain ⟨n,s⟩:=u
 dsimp only at *
 refine reads_enter (by kernel_rfl) Tryz.func35 rfl (by simp [Tryz.ntmps35]) ?_
 simp only [enterFr,Tryz.ntmps35]
 refine wS ?_
 refine zv (vI 0) ?_
 refine wS ?_
 refine zv (.ref i 0) ?_
 refine zv (.ref i 0) ?_
 refine zv (.ref i 0) ?_
 refine zv (.ref i 1) ?_
 refine zt (vI at') l1 ?_
 refine zv (vI at') ?_
 refine wS ?_
 refine zv (.ref i 0) ?_
 refine run_m hM [] [] (by kernel_rfl) (by kernel_rfl) (by decide) ?_
 refine zv (vI n) ?_
 refine wN ?_
 refine ex_region_k (fun s => ∃ fr',s = ⟨27,gl,fr',(i,some (inO j L.length a2 e2)) :: σ,c,c,false⟩ ∧ FrOk fr' [(0,.ref i 0),(5,vI at'),(6,vI n),(20,vB (decide (n < 0 ∨ m < n)))]) ?_ ?_
 ·refine zv (vI n) ?_
  refine run_bin rfl rfl ltI (by decide) ?_
  refine zv (vB (decide (n < 0))) ?_
  by_cases h0:n < 0
  ·rw [decide_eq_true h0]
   iterate 3 refine zn ?_
   refine zv (vB true) ?_
   refine run_nil ⟨_,rfl,rfl,rfl,rfl,?_,trivial⟩
   exact vBt (.inl h0)
  ·rw [decide_eq_false h0]
   refine zg (vI n) ?_
   refine zg (vI m) ?_
   refine ged_bin (by kernel_rfl) rfl rfl gtI (by decide) ?_
   refine zv (vB (decide (m < n))) ?_
   refine run_nil ⟨_,rfl,rfl,rfl,rfl,?_,trivial⟩
   exact vBc ⟨fun h => .inr h,fun h => h.resolve_left h0⟩
 ·rintro s ⟨fr',rfl,hfr⟩
  apply thn_n
  refine Ex.le ?_ (le_frs hfr)
  refine ex_condP (p:=n < 0 ∨ m < n) rfl (fun hb => ?_) (fun hb => ?_)
  ·refine wS ?_
   refine zv (.ref i 0) ?_
   refine zv (.ref i 0) ?_
   refine zv (.ref i 0) ?_
   refine zv (vI at') ?_
   refine run_m hW [] [] (by kernel_rfl) (by kernel_rfl) (by decide) ?_
   refine wS ?_
   refine zv (vI 0) ?_
   refine wS ?_
   rw [if_pos hb]
   exact endx (.inr rfl) (gs:=[vI 0]) (by kernel_rfl) ⟨at',7,h.at',curOf_err (by decide),rfl,rfl,over2⟩
  ·refine wS ?_
   refine zv (vI n) ?_
   refine zv (vI n) ?_
   refine wS ?_
   rw [if_neg hb]
   exact endx (.inr rfl) (gs:=[vI n]) (by kernel_rfl) ⟨a2,e2,h1,h2,rfl,rfl,fun _ => rfl⟩

theorem id_st {σ:Sto} {k:Nat} {l:List G} {a b:Int} {s:Nat} (h:sget σ k = some ⟨61,l,none⟩) (hl:l.length = 3):gsto Tryz.prog σ 61 (.ref k 0) (vId a b s) = some (k,⟨61,[vI a,vI b,vU s],none⟩):=by
 obtain ⟨x,y,z,rfl⟩:∃ x y z,l = [x,y,z]:=by
  match l,hl with
  | [x,y,z],_ => exact ⟨x,y,z,rfl⟩
 simp only [gsto,h]
 kernel_rfl
theorem id_ld {σ:Sto} {k:Nat} {a b:Int} {s:Nat} (h:sget σ k = some ⟨61,[vI a,vI b,vU s],none⟩):gload Tryz.prog σ 61 (.ref k 0) = some (vId a b s):=by
 simp only [gload,h]
 kernel_rfl
abbrev vIdn (x:Idn):G:=vId x.a x.b x.c
set_option maxHeartbeats 2000000 in
theorem ident_rd (gl:List (Nat × List G)) {i j at':Nat} {L:List UInt8} {e:Int} {σ:Sto} (c:Nat) (h:InAt σ i j L at' e) (hi:i < c) (hj:j < c) :
  ∃ (a2:Nat) (e2:Int) (σ':Sto),a2 ≤ L.length ∧ curOf L a2 e2 = (cId (curOf L at' e)).2 ∧ (∀ k,k < c → sget σ' k = sget ((i,some (inO j L.length a2 e2)) :: σ) k) ∧ McK Tryz.prog gl 36 [.ref i 0] σ c (vIdn (cId (curOf L at' e)).1) σ' (c + 2):=by
 suffices hM:Mc Tryz.prog gl 36 [.ref i 0] σ c (fun v σ' c' => ∃ (a2:Nat) (e2:Int),a2 ≤ L.length ∧ curOf L a2 e2 = (cId (curOf L at' e)).2 ∧ (∀ k,k < c → sget σ' k = sget ((i,some (inO j L.length a2 e2)) :: σ) k) ∧ v = vIdn (cId (curOf L at' e)).1 ∧ c' = c + 2) by
  obtain ⟨v,σ',c',⟨a2,e2,h1,h2,h3,rfl,rfl⟩,hM⟩:=hM
  exact ⟨a2,e2,σ',h1,h2,h3,hM⟩
 have z:∀ (τ:Sto) (o:Option Ob),InAt τ i j L at' e → InAt ((c,o) :: τ) i j L at' e:=fun τ o h => h.of (sget_ne (by omega)) (sget_ne (by omega))
 have hA:=z σ (some ⟨61,[vI 0,vI 0,vU 0],none⟩) h
 obtain ⟨l0,l1,l2⟩:=in_ld hA.i
 obtain ⟨a1,e1,p1,p2,hM1⟩:=int_rd gl (c + 1) hA
 have hB:=hA.next (e2:=e1) p1
 obtain ⟨a2,e2,q1,q2,hM2⟩:=int_rd gl (c + 1) hB
 have hC:=hB.next (e2:=e2) q1
 obtain ⟨a3,e3,r1,r2,hM3⟩:=num_rd gl (c + 1) hC
 have hD:=hC.next (e2:=e3) r1
 rw [p2] at q2 hM2
 rw [q2] at r2 hM3
 have eid:cId (curOf L at' e) = if e3 = 0 then (⟨(cInt (curOf L at' e)).1,(cInt (cInt (curOf L at' e)).2).1,(cNum (cInt (cInt (curOf L at' e)).2).2).1⟩,curOf L a3 e3) else (.zero,curOf L a3 e3):=by
  unfold cId
  rw [← r2]
  by_cases h3:e3 = 0
  ·rw [if_pos h3,h3,curOf_ok]
  ·rw [if_neg h3,curOf_err h3]
 rw [eid]
 generalize (cInt (curOf L at' e)).1 = x1 at *
 generalize (cInt (cInt (curOf L at' e)).2).1 = x2 at *
 generalize (cNum (cInt (cInt (curOf L at' e)).2).2).1 = x3 at *
 refine mc_enter (by kernel_rfl) Tryz.func36 rfl (by simp [Tryz.ntmps36]) ?_
 simp only [enterFr,Tryz.ntmps36]
 refine wS ?_
 refine run_alloc (l:=[vI 0,vI 0,vU 0]) (by kernel_rfl) (by decide) ?_
 refine wS ?_
 refine zv (.ref i 0) ?_
 refine zv (.ref i 0) ?_
 refine zv (.ref i 0) ?_
 refine zv (.ref i 1) ?_
 refine zt (vI at') l1 ?_
 refine zv (vI at') ?_
 refine wS ?_
 refine zv (.ref i 0) ?_
 refine run_m hM1 [] [] (by kernel_rfl) (by kernel_rfl) (by decide) ?_
 refine zv (.ref i 0) ?_
 refine run_m hM2 [] [] (by kernel_rfl) (by kernel_rfl) (by decide) ?_
 refine zv (.ref i 0) ?_
 refine run_m hM3 [] [] (by kernel_rfl) (by kernel_rfl) (by decide) ?_
 refine run_build (g:=vId x1 x2 x3) (by kernel_rfl) (by decide) ?_
 refine run_alloc (l:=[vI 0,vI 0,vU 0]) (by kernel_rfl) (by decide) ?_
 refine run_sto (id_st (sget_eq rfl) rfl) ?_
 have hE:sget ((c + 1,some (⟨61,[vI x1,vI x2,vU x3],none⟩:Ob)) :: (c + 1,some ⟨61,[vI 0,vI 0,vU 0],none⟩) :: (i,some (inO j L.length a3 e3)) :: (i,some (inO j L.length a2 e2)) :: (i,some (inO j L.length a1 e1)) :: (c,some ⟨61,[vI 0,vI 0,vU 0],none⟩) :: σ) i = some (inO j L.length a3 e3):=by
  rw [sget_ne (by omega),sget_ne (by omega),sget_eq rfl]
 obtain ⟨m0,m1,m2⟩:=in_ld hE
 refine wS ?_
 refine zv (.ref i 0) ?_
 refine zv (.ref i 0) ?_
 refine zv (.ref i 0) ?_
 refine zv (.ref i 2) ?_
 refine zt (vI e3) m2 ?_
 refine run_bin rfl rfl neI (by decide) ?_
 refine wS ?_
 refine ex_condP (p:=e3 ≠ 0) rfl (fun h3 => ?_) (fun h3 => ?_)
 ·refine wS ?_
  refine zv (.ref i 0) ?_
  refine zv (vI at') ?_
  refine zv (.ref i 0) ?_
  refine zv (.ref i 0) ?_
  refine zv (.ref i 1) ?_
  refine run_sto (in_st1 hE) ?_
  refine wS ?_
  refine run_build (g:=vId 0 0 0) (by kernel_rfl) (by decide) ?_
  refine run_sto (id_st (l:=[vI 0,vI 0,vU 0]) (by rw [sget_ne (by omega),sget_ne (by omega),sget_ne (by omega),sget_ne (by omega),sget_ne (by omega),sget_ne (by omega),sget_eq rfl]) rfl) ?_
  refine wS ?_
  rw [if_neg h3]
  refine endx (.inr rfl) (gs:=[vId 0 0 0]) ?_ ⟨at',e3,h.at',by rw [curOf_err h3,curOf_err h3],fun k hk => ?_,rfl,rfl⟩
  ·exact res_cell (a:=2) (t:=61) rfl (id_ld (sget_eq rfl))
  ·simp only [sget_cons]
   repeat' (first | rw [if_neg (show ¬ c = k by omega)] | rw [if_neg (show ¬ c + 1 = k by omega)])
   split <;> rfl
 ·rw [if_pos (Decidable.of_not_not h3)]
  refine wS ?_
  refine run_ld rfl (id_ld (sget_eq rfl)) (by decide) ?_
  refine run_sto (id_st (l:=[vI 0,vI 0,vU 0]) (by rw [sget_ne (by omega),sget_ne (by omega),sget_ne (by omega),sget_ne (by omega),sget_ne (by omega),sget_eq rfl]) rfl) ?_
  refine wS ?_
  refine endx (.inr rfl) (gs:=[vId x1 x2 x3]) ?_ ⟨a3,e3,r1,rfl,fun k hk => ?_,rfl,rfl⟩
  ·exact res_cell (a:=2) (t:=61) rfl (id_ld (sget_eq rfl))
  ·simp only [sget_cons]
   repeat' (first | rw [if_neg (show ¬ c = k by omega)] | rw [if_neg (show ¬ c + 1 = k by omega)])
   split <;> rfl

theorem left_mc (gl:List (Nat × List G)) {i j at':Nat} {L:List UInt8} {e:Int} {σ:Sto} (c:Nat) (h:InAt σ i j L at' e):McK Tryz.prog gl 77 [.ref i 0] σ c (vI ((L.length:Int) - at')) σ c:=by
 suffices hM:Mc Tryz.prog gl 77 [.ref i 0] σ c (fun v σ' c' => v = vI ((L.length:Int) - at') ∧ σ' = σ ∧ c' = c) by
  obtain ⟨v,σ',c',⟨rfl,rfl,rfl⟩,hM⟩:=hM
  exact hM
 obtain ⟨l0,l1,l2⟩:=in_ld h.i
 have hL:=h.L
 have ha:=h.at'
 refine mc_enter (by kernel_rfl) Tryz.func77 rfl (by simp [Tryz.ntmps77]) ?_
 simp only [enterFr,Tryz.ntmps77]
 refine wS ?_
 refine zv (vI 0) ?_
 refine wS ?_
 refine ex_region_draw (bars:=[]) mixed (by kernel_rfl) ?_
 iterate 4 refine zd (.ref i 0) ?_
 refine rund_v (g:=.rsl j 0 L.length) (Eq.trans (by kernel_rfl) l0) (by decide) ?_
 refine zd (vI L.length) ?_
 iterate 3 refine zd (.ref i 0) ?_
 refine zd (.ref i 1) ?_
 refine rund_v (g:=vI at') (Eq.trans (by kernel_rfl) l1) (by decide) ?_
 refine rund_bin rfl rfl (subI (by unfold Is64; omega)) (by decide) ?_
 refine zd (vI ((L.length:Int) - at')) ?_
 apply rund_nil
 refine wS ?_
 exact endx (.inr rfl) (gs:=[vI ((L.length:Int) - at')]) (by kernel_rfl) ⟨rfl,rfl,rfl⟩
def endOf:Cur → Int
 | .error e => e
 | .ok [] => 0
 | .ok _ => 2
theorem endOf_cur {L:List UInt8} {a:Nat} {e:Int} (ha:a ≤ L.length):endOf (curOf L a e) = if e = 0 then (if (0:Int) < (L.length:Int) - a then 2 else 0) else e:=by
 by_cases he:e = 0
 ·rw [if_pos he,he,curOf_ok]
  by_cases h:a < L.length
  ·rw [if_pos (by omega),List.drop_eq_getElem_cons h]; rfl
  ·rw [if_neg (by omega),List.drop_of_length_le (by omega)]; rfl
 ·rw [if_neg he,curOf_err he]; rfl
theorem end_mc (gl:List (Nat × List G)) {i j at':Nat} {L:List UInt8} {e:Int} {σ:Sto} (c:Nat) (h:InAt σ i j L at' e):McK Tryz.prog gl 38 [.ref i 0] σ c (vI (endOf (curOf L at' e))) σ c:=by
 suffices hM:Mc Tryz.prog gl 38 [.ref i 0] σ c (fun v σ' c' => v = vI (endOf (curOf L at' e)) ∧ σ' = σ ∧ c' = c) by
  obtain ⟨v,σ',c',⟨rfl,rfl,rfl⟩,hM⟩:=hM
  exact hM
 rw [endOf_cur h.at']
 have hLf:=left_mc gl c h
 generalize (L.length:Int) - at' = n at *
 obtain ⟨l0,l1,l2⟩:=in_ld h.i
 refine mc_enter (by kernel_rfl) Tryz.func38 rfl (by simp [Tryz.ntmps38]) ?_
 simp only [enterFr,Tryz.ntmps38]
 refine wS ?_
 refine zv (vI 0) ?_
 refine wN ?_
 refine ex_region_k (fun s => ∃ fr',s = ⟨19,gl,fr',σ,c,c,false⟩ ∧ FrOk fr' [(0,.ref i 0),(13,vB (decide (e = 0 ∧ 0 < n)))]) ?_ ?_
 ·iterate 3 refine zv (.ref i 0) ?_
  refine zv (.ref i 2) ?_
  refine zt (vI e) l2 ?_
  refine run_bin rfl rfl eqI (by decide) ?_
  refine zv (vB (decide (e = 0))) ?_
  by_cases h0:e = 0
  ·rw [decide_eq_true h0]
   refine zg (.ref i 0) ?_
   refine ged_m (by kernel_rfl) hLf [] [] (by kernel_rfl) (by kernel_rfl) (by decide) ?_
   refine ged_bin (by kernel_rfl) rfl rfl gtI (by decide) ?_
   refine zv (vB (decide (0 < n))) ?_
   exact run_nil ⟨_,rfl,rfl,vBc ⟨fun h => ⟨h0,h⟩,fun h => h.2⟩,trivial⟩
  ·rw [decide_eq_false h0]
   iterate 3 refine zn ?_
   refine zv (vB false) ?_
   exact run_nil ⟨_,rfl,rfl,vBf fun h => h0 h.1,trivial⟩
 ·rintro s ⟨fr',rfl,hfr⟩
  apply thn_n
  refine Ex.le ?_ (le_frs hfr)
  refine ex_condP (p:=e = 0 ∧ 0 < n) rfl (fun hb => ?_) (fun hb => ?_)
  ·rw [if_pos hb.1,if_pos hb.2]
   refine wS ?_
   refine zv (vI 2) ?_
   refine wS ?_
   exact endx (.inr rfl) (gs:=[vI 2]) (by kernel_rfl) ⟨rfl,rfl,rfl⟩
  ·have e1:(if e = 0 then if 0 < n then (2:Int) else 0 else e) = e:=by
    by_cases h0:e = 0
    ·rw [if_pos h0,if_neg (fun h => hb ⟨h0,h⟩),h0]
    ·rw [if_neg h0]
   rw [e1]
   refine wS ?_
   iterate 3 refine zv (.ref i 0) ?_
   refine zv (.ref i 2) ?_
   refine zt (vI e) l2 ?_
   refine zv (vI e) ?_
   refine wS ?_
   exact endx (.inr rfl) (gs:=[vI e]) (by kernel_rfl) ⟨rfl,rfl,rfl⟩
theorem open_mc (gl:List (Nat × List G)) (gb:G) (L:List UInt8) (σ:Sto) (c:Nat) (hv:gview σ 1 gb = some (L.map gY,L.length)) (hL:L.length ≤ 1000000000000):McK Tryz.prog gl 30 [gb] σ c (.ref (c + 1) 0) ((c + 1,some (inO c L.length 0 0)) :: (c,some ⟨5,L.map gY,none⟩) :: σ) (c + 2):=by
 suffices hM:Mc Tryz.prog gl 30 [gb] σ c (fun v σ' c' => v = .ref (c + 1) 0 ∧ c' = c + 2 ∧ ∀ k,sget σ' k = sget ((c + 1,some (inO c L.length 0 0)) :: (c,some ⟨5,L.map gY,none⟩) :: σ) k) by
  obtain ⟨v,σ',c',⟨rfl,rfl,h3⟩,hM⟩:=hM
  exact hM.ext h3
 obtain ⟨q,hq,hq2⟩:=row_app (P:=Tryz.prog) (t:=22) (e:=5) (s:=1) (b:=1) (zs:=[.int .u8 0]) (g:=.lit (.slice none 0 0)) (n:=0) (l:=[]) (r:=none) (by kernel_rfl) (by kernel_rfl) (by omega) (by kernel_rfl) rfl (by kernel_rfl) ⟨rfl,rfl,rfl⟩ hv (by omega) c
 simp only [reduceCtorEq,or_false] at hq2
 subst hq2
 rw [Nat.zero_add,List.nil_append] at hq
 refine mc_enter (by kernel_rfl) Tryz.func30 rfl (by simp [Tryz.ntmps30]) ?_
 simp only [enterFr,Tryz.ntmps30]
 refine wS ?_
 refine zv (.lit (.pointer none)) ?_
 refine wS ?_
 refine zv (gb) ?_
 refine run_app hq (by decide) ?_
 refine run_build (g:=.agg [.rsl q 0 L.length,vI 0,vI 0]) (by kernel_rfl) (by decide) ?_
 refine run_build (g:=.agg [.rsl q 0 L.length,vI 0,vI 0]) (by kernel_rfl) (by decide) ?_
 refine run_box (l:=[.rsl q 0 L.length,vI 0,vI 0]) (by kernel_rfl) (by decide) ?_
 refine zv (.ref (q + 1) 0) ?_
 refine wS ?_
 refine endx (.inr rfl) (gs:=[.ref (q + 1) 0]) (by kernel_rfl) ⟨rfl,rfl,fun k => ?_⟩
 simp only [sget_cons]
 repeat' split
 all_goals first | rfl | omega
end
end Go.Proofs.YtpehhhbmobmedaaGreatDoor
