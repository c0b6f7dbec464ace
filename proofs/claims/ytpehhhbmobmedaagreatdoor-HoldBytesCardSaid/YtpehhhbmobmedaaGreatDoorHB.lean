/- HoldBytes of huddlelaw23: the law's walk. -/
import Derived.Test.YtpehhhbmobmedaaGreatDoorTa
import Derived.Test.YtpehhhbmobmedaaGreatDoorMd
namespace Go.Proofs.YtpehhhbmobmedaaGreatDoor
set_option linter.unusedVariables false
set_option linter.unusedSimpArgs false
set_option linter.unusedSectionVars false
open Go.RowKit
theorem neqS {p q:Operand} (s:ByteArray):gbin Tryz.prog .neq 9 p q (.lit (.string s)) (.lit (.string s)) = some (vB false):=by
 unfold gbin
 simp only [gval]
 have e:spure Tryz.prog (binOp .neq 9 (.string s) (.string s)) = some (.bool false):=by
  simp [binOp,Op.stringOp,spure_pure]
 have hg:spure Tryz.prog (eqGuard .neq 9 p q (.string s) (.string s)) = some ():=by kernel_rfl
 rw [sp_bind hg,e]
 rfl
attribute [local irreducible] Tr Run RunD RunF GS TG Le Wk Frz Fn' ImmG Flat WkFr WkSt EndM Ex EndX McK FnM gNm gK
def rowU (e:TypeId) (l:List G):Option Nat → Sto
 | none => []
 | some j => [(j,some ⟨e,l,none⟩)]
theorem rowU_get {e:TypeId} {l:List G} {r:Option Nat} {k:Nat} {o:Ob} (h:sget (rowU e l r) k = some o):r = some k ∧ o = ⟨e,l,none⟩:=by
 cases r with
 | none => cases h
 | some j =>
  simp only [rowU,sget_cons,sget_nil] at h
  split at h
  ·rename_i e'; subst e'; cases h; exact ⟨rfl,rfl⟩
  ·cases h
theorem rowU_row {α:Type} {f:α → List G} {k:Nat} {e:TypeId} {σ:Sto} {g:G} {l:List α} {r:Option Nat} (h:RowA f k e σ g l r):RowA f k e (rowU e (l.flatMap f) r) g l r:=by
 cases r with
 | none => exact h
 | some j => exact ⟨h.1,sget_eq rfl,h.2.2⟩
theorem rowA_obj {α:Type} {f:α → List G} {k:Nat} {e:TypeId} {σ:Sto} {g:G} {l:List α} {j:Nat} (h:RowA f k e σ g l (some j)):sget σ j = some ⟨e,l.flatMap f,none⟩:=h.2.1
theorem rowA_app2 {α:Type} {f:α → List G} {k:Nat} {e:TypeId} {σ:Sto} {g:G} {l:List α} {r:Option Nat} (h:RowA f k e σ g l r) {σ':Sto} (hs:∀ j,r = some j → sget σ' j = some ⟨e,l.flatMap f,none⟩):RowA f k e σ' g l r:=by
 cases r with
 | none => exact h
 | some j => exact ⟨h.1,hs j rfl,h.2.2⟩
theorem rowU_over {e:TypeId} {l:List G} {r:Option Nat} {σ:Sto} {k:Nat} (h:∀ j,r = some j → j ≠ k):sget (rowU e l r ++ σ) k = sget σ k:=by
 cases r with
 | none => rfl
 | some j => exact sget_ne (h j rfl)
theorem rowU_keys {e:TypeId} {l:List G} {r:Option Nat} {y:Nat} (h:y ∈ (rowU e l r).map (·.1)):r = some y:=by
 cases r with
 | none => cases h
 | some j =>
  simp only [rowU,List.map_cons,List.map_nil,List.mem_singleton] at h
  rw [h]
theorem rowU_hit {e:TypeId} {l:List G} {j:Nat} {σ:Sto}:sget (rowU e l (some j) ++ σ) j = some ⟨e,l,none⟩:=sget_eq rfl
theorem termC_flat (d:Int) (l:List Nm):l.flatMap (termC d) = (l.map (tN d)).flatMap cT:=by
 rw [List.flatMap_map]
 exact flatMap_congr' fun x _ => termC_tN d x
theorem raw_len (L:List UInt8):(rawOf L).its.length ≤ 1000:=by
 have h:=cMany_bd (m:=1000) (by decide) (if (cBool (cInt (.ok L)).2).1 then cNum (cBool (cInt (.ok L)).2).2 else (0,(cBool (cInt (.ok L)).2).2)).2
 have h2:(rawOf L).its.length = _:=cIts_len _ _
 rw [h2]
 omega
abbrev sl (j n:Nat):G:=.rsl j 0 n
abbrev slO (l:List G):Ob:=⟨22,l,none⟩
theorem slO_ix (j q n:Nat) (h:q < n):gindex Tryz.prog 42 (.rsl j 0 n) (q:Int) = some (.ref j q):=by
 simp only [gindex]
 rw [show telem Tryz.prog 42 = some 22 by kernel_rfl,show tarr Tryz.prog 42 = none by kernel_rfl]
 simp only []
 rw [show tsize Tryz.prog 22 = some 1 by kernel_rfl]
 simp only [Option.bind_some]
 rw [if_pos (by omega)]
 simp
theorem slO_ld {σ:Sto} {j q:Nat} {l:List G} {g:G} (h:sget σ j = some (slO l)) (hg:l[q]? = some g):gload Tryz.prog σ 22 (.ref j q) = some g:=by
 simp only [gload,h,Option.bind_some]
 unfold gpart
 rw [show tagg Tryz.prog 22 = some false by kernel_rfl,show tsize Tryz.prog 22 = some 1 by kernel_rfl]
 simp only []
 rw [hg]
theorem byt_ix (j q n:Nat) (h:q < n):gindex Tryz.prog 22 (.rsl j 0 n) (q:Int) = some (.ref j q):=by
 simp only [gindex]
 rw [show telem Tryz.prog 22 = some 5 by kernel_rfl,show tarr Tryz.prog 22 = none by kernel_rfl]
 simp only []
 rw [show tsize Tryz.prog 5 = some 1 by kernel_rfl]
 simp only [Option.bind_some]
 rw [if_pos (by omega)]
 simp
def turnB (B:List UInt8) (k:Nat) (b:UInt8):List UInt8:=B.take k ++ [b] ++ B.drop (k + 1)
theorem turnB_len {B:List UInt8} {k:Nat} {b:UInt8} (hk:k < B.length):(turnB B k b).length = B.length:=by
 unfold turnB
 simp
 omega
theorem byt_st {σ:Sto} {j k:Nat} {B:List UInt8} {b:UInt8} (h:sget σ j = some (obB B)) (hk:k < B.length):gsto Tryz.prog σ 5 (.ref j k) (gY b) = some (j,obB (turnB B k b)):=by
 simp only [gsto,h,Option.bind_some,gcells]
 rw [show tsize Tryz.prog 5 = some 1 by kernel_rfl]
 simp only [Option.bind_some]
 rw [if_pos (show (Value.int IntKind.u8 (b.toNat:Int)).oneCell' = true from rfl)]
 simp only [Option.bind_some]
 rw [if_pos ⟨rfl,by simp; omega,rfl⟩]
 unfold turnB
 simp [List.map_take,List.map_drop]
theorem byt_pre (j n k:Nat) (h:k ≤ n):gsliceOf Tryz.prog 22 (.rsl j 0 n) (some none) (some (some (k:Int))) = some (.rsl j 0 k):=by
 simp only [gsliceOf,Option.bind_some,gslice]
 rw [show telem Tryz.prog 22 = some 5 by kernel_rfl]
 simp only [Option.bind_some]
 rw [show tsize Tryz.prog 5 = some 1 by kernel_rfl]
 simp only [Option.bind_some]
 rw [if_neg (by decide),if_pos (by omega)]
 simp
theorem byt_view {σ:Sto} {j:Nat} {L:List UInt8} (h:sget σ j = some (obB L)):gview σ 1 (.rsl j 0 L.length) = some (L.map gY,L.length):=by
 simp only [gview,h,Option.bind_some]
 rw [if_pos (by simp),List.drop_zero,List.take_of_length_le (by simp)]
structure WB (σ:Sto) (c:Nat) (j5 jf jo jt jx k:Nat) (F B T X:List UInt8) (q:Nat):Prop where
 h5:sget σ j5 = some (slO [sl jf F.length,sl jo B.length,sl jt T.length,sl jo k,sl jx X.length])
 hf:sget σ jf = some (obB F)
 ho:q ≤ 3 → sget σ jo = some (obB B)
 ht:sget σ jt = some (obB T)
 hx:sget σ jx = some (obB X)
 b:j5 < c ∧ jf < c ∧ jo < c ∧ jt < c ∧ jx < c ∧ jo ≠ j5 ∧ jo ≠ jf ∧ jo ≠ jt ∧ jo ≠ jx
 l:F.length ≤ 10000000 ∧ B.length ≤ 10000000 ∧ T.length ≤ 10000000 ∧ X.length ≤ 10000000 ∧ k ≤ B.length
theorem WB.more {σ σ':Sto} {c c':Nat} {j5 jf jo jt jx k:Nat} {F B T X:List UInt8} {q:Nat} (h:WB σ c j5 jf jo jt jx k F B T X q) (hc:c ≤ c') (hs:∀ i,i < c → sget σ' i = sget σ i):WB σ' c' j5 jf jo jt jx k F B T X q:=by
 obtain ⟨b1,b2,b3,b4,b5,b6,b7,b8,b9⟩:=h.b
 exact ⟨(hs _ b1).trans h.h5,(hs _ b2).trans h.hf,fun hq => (hs _ b3).trans (h.ho hq),(hs _ b4).trans h.ht,(hs _ b5).trans h.hx,⟨by omega,by omega,by omega,by omega,by omega,b6,b7,b8,b9⟩,h.l⟩
theorem WB.pick {σ:Sto} {c:Nat} {j5 jf jo jt jx k:Nat} {F B T X:List UInt8} {q:Nat} (h:WB σ c j5 jf jo jt jx k F B T X q) (hq:q < 5) (n:Nat) (gl:List (Nat × List G)) (fr:Fr) (p:Nat) (rr:Bool) :
  ∃ j L σ',Le Tryz.prog ⟨n,gl,fr,σ,c,p,rr⟩ ⟨n,gl,fr,σ',c,p,rr⟩ ∧ [sl jf F.length,sl jo B.length,sl jt T.length,sl jo k,sl jx X.length][q]? = some (sl j L.length) ∧ sget σ' j = some (obB L) ∧ j < c ∧ j ≠ j5 ∧ L.length ≤ 10000000 ∧ WB σ' c j5 jf jo jt jx k F B T X (q + 1):=by
 obtain ⟨b1,b2,b3,b4,b5,b6,b7,b8,b9⟩:=h.b
 obtain ⟨l1,l2,l3,l4,l5⟩:=h.l
 have hn5:jf ≠ j5 ∧ jt ≠ j5 ∧ jx ≠ j5:=by
  refine ⟨fun e => ?_,fun e => ?_,fun e => ?_⟩
  ·have:=h.hf; rw [e,h.h5] at this; cases this
  ·have:=h.ht; rw [e,h.h5] at this; cases this
  ·have:=h.hx; rw [e,h.h5] at this; cases this
 match q,hq with
 | 0,_ => exact ⟨jf,F,σ,Le.refl _,rfl,h.hf,b2,hn5.1,l1,⟨h.h5,h.hf,fun _ => h.ho (by omega),h.ht,h.hx,h.b,h.l⟩⟩
 | 1,_ => exact ⟨jo,B,σ,Le.refl _,rfl,h.ho (by omega),b3,b6,l2,⟨h.h5,h.hf,fun _ => h.ho (by omega),h.ht,h.hx,h.b,h.l⟩⟩
 | 2,_ => exact ⟨jt,T,σ,Le.refl _,rfl,h.ht,b4,hn5.2.1,l3,⟨h.h5,h.hf,fun _ => h.ho (by omega),h.ht,h.hx,h.b,h.l⟩⟩
 | 3,_ =>
  have hl:(B.take k).length = k:=by rw [List.length_take]; omega
  refine ⟨jo,B.take k,(jo,some ⟨5,(B.map gY).take k,none⟩) :: σ,le_short (st:=⟨n,gl,fr,σ,c,p,rr⟩) (h.ho (by omega)) k,?_,?_,b3,b6,by omega,⟨?_,?_,fun hq => by omega,?_,?_,h.b,h.l⟩⟩
  ·rw [hl]; rfl
  ·rw [sget_eq rfl,← List.map_take]
  ·rw [sget_ne b6]; exact h.h5
  ·rw [sget_ne b7]; exact h.hf
  ·rw [sget_ne b8]; exact h.ht
  ·rw [sget_ne b9]; exact h.hx
 | 4,_ => exact ⟨jx,X,σ,Le.refl _,rfl,h.hx,b5,hn5.2.2,l4,⟨h.h5,h.hf,fun hq => by omega,h.ht,h.hx,h.b,h.l⟩⟩
set_option maxHeartbeats 32000000 in
theorem law23_fn (raw:List UInt8) (dev:Int) (hdev:Is64 dev) (lead:Nat) (A:List Int) (hA:∀ z ∈ A,Is64 z) (at':Int) (hat:Is64 at') (cb:UInt8) :
  Fn' Tryz.prog glc 3 [.sl (raw.map gY) raw.length,vI dev,vU lead,.sl (A.map vI) A.length,vI at',gY cb] (vB true):=by
 obtain ⟨g0,g1,g3,g4,ii,σM,cM,a,b,sm,hMi,hMa,hMb,hMs,hMc,hMade⟩:=made_gs
 obtain ⟨x,ex⟩:∃ x:Idn,x = ⟨(a:Int),(b:Int),sm⟩:=⟨_,rfl⟩
 have hx64:Is64 x.a ∧ Is64 x.b ∧ x.c < 18446744073709551616:=by
  rw [ex]; refine ⟨?_,?_,?_⟩
  ·show Is64 (a:Int); unfold Is64; omega
  ·show Is64 (b:Int); unfold Is64; omega
  ·show sm < _; omega
 have hMi':sget σM ii = some (idO x.a x.b x.c):=by rw [hMi,ex]; rfl
 -- the document's hold
 obtain ⟨σ1,e1⟩:∃ σ1:Sto,σ1 = (cM,some (gO g0 g1 g3 g4 ii)) :: (cM,some ⟨31,[gN0,gN0,gN0,gN0,gN0],none⟩) :: σM:=⟨_,rfl⟩
 obtain ⟨_,lG⟩:=gO_ld (σ:=σ1) (k:=cM) (i:=ii) (g0:=g0) (g1:=g1) (g3:=g3) (g4:=g4) (by rw [e1]; exact sget_eq rfl)
 obtain ⟨v2,σ2,c2,⟨gp,d,jq,l,rfl,hl2,hq1,hq2,k2,hne,hll,hwf,hd64⟩,hM2⟩:=taught_mc glc g0 g1 g3 g4 ii x hx64 dev hdev lead A hA σ1 (cM + 1) (by rw [e1,sget_ne (by omega),sget_ne (by omega)]; exact hMi') (by omega)
 obtain ⟨σ3,e3⟩:∃ σ3:Sto,σ3 = (c2,some (hO d (.rsl jq 0 l.length))) :: (c2,some (hO 0 gN0)) :: σ2:=⟨_,rfl⟩
 obtain ⟨_,_,lH⟩:=hO_ld (σ:=σ3) (k:=c2) (d:=d) (g:=.rsl jq 0 l.length) (by rw [e3]; exact sget_eq rfl)
 obtain ⟨v4,σ4,c4,⟨jo,B,rfl,hB4,ho1,ho2,k4,hB1,hB2⟩,hM4⟩:=rput_mc glc d hd64 (jg:=jq) (l:=l) σ3 (c2 + 1) (by rw [e3,sget_ne (by omega),sget_ne (by omega)]; exact hl2) (by omega) (by omega) hne hwf
 obtain ⟨hk0,hk1⟩:=arI_bd (n:=at') (m:=(B.length:Int)) (by omega)
 have hAr:=around_fn glc at' (B.length:Int) hat (by omega)
 obtain ⟨k,ek⟩:∃ k:Nat,(k:Int) = arI at' (B.length:Int):=⟨(arI at' (B.length:Int)).toNat,by omega⟩
 have hkB:k < B.length:=by omega
 rw [← ek] at hAr
 obtain ⟨σ5,e5⟩:∃ σ5:Sto,σ5 = (c4 + 1,some (obB B)) :: (c4,none) :: (c4,some (obB [])) :: σ4:=⟨_,rfl⟩
 have ap5:=byt_app (σ:=(c4,some (obB [])) :: σ4) (jo:=c4) (q:=jo) (lb:=[]) (m:=B) (sget_eq rfl) (by rw [sget_ne (by omega)]; exact hB4) (by simp; omega) (c4 + 1)
 rw [List.nil_append] at ap5
 obtain ⟨T,eT⟩:∃ T,T = turnB B k cb:=⟨_,rfl⟩
 have hTl:T.length = B.length:=by rw [eT]; exact turnB_len hkB
 obtain ⟨σ6,e6⟩:∃ σ6:Sto,σ6 = (c4 + 1,some (obB T)) :: σ5:=⟨_,rfl⟩
 have hB6:sget σ6 jo = some (obB B):=by rw [e6,sget_ne (by omega),e5,sget_ne (by omega),sget_ne (by omega),sget_ne (by omega)]; exact hB4
 have hT6:sget σ6 (c4 + 1) = some (obB T):=by rw [e6]; exact sget_eq rfl
 have hFew:=few_fn glc raw
 obtain ⟨F,eF⟩:∃ F,F = raw.take 40:=⟨_,rfl⟩
 rw [← eF] at hFew
 have hFl:F.length ≤ 40:=by rw [eF,List.length_take]; omega
 refine fn_enter Tryz.func3 rfl (by simp [Tryz.ntmps3]) (Ex.tr ?_)
 simp only [St.enter,enterFr,Tryz.ntmps3]
 refine wS ?_
 refine zv (vB false) ?_
 refine wS ?_
 refine run_e rfl (hMade rfl (fun d e => by cases e; show 25 < 118; decide) rfl (by kernel_rfl) rfl rfl rfl) ?_
 simp only [St.put]
 refine run_alloc (l:=[gN0,gN0,gN0,gN0,gN0]) (by kernel_rfl) (by decide) ?_
 refine run_sto (gO_st (sget_eq rfl) rfl) ?_
 rw [← e1]
 refine wS ?_
 refine run_ld rfl lG (by decide) ?_
 refine zv (vI dev) ?_
 refine zv (vU lead) ?_
 refine zv (.sl (A.map vI) A.length) ?_
 refine run_m hM2 [] [] (by kernel_rfl) (by kernel_rfl) (by decide) ?_
 refine zv (.tup [gp,.agg [vI d,.rsl jq 0 l.length]]) ?_
 refine zv (gp) ?_
 refine zv (.agg [vI d,.rsl jq 0 l.length]) ?_
 refine run_alloc (l:=[vI 0,gN0]) (by kernel_rfl) (by decide) ?_
 refine zv (gp) ?_
 refine run_sto (hO_stw (sget_eq rfl)) ?_
 rw [← e3]
 refine wS ?_
 refine run_ld rfl lH (by decide) ?_
 refine run_m hM4 [] [] (by kernel_rfl) (by kernel_rfl) (by decide) ?_
 refine zv (.rsl jo 0 B.length) ?_
 refine wS ?_
 refine zv (.rsl jo 0 B.length) ?_
 refine zv (vI B.length) ?_
 refine run_bin rfl rfl (eqI (a:=B.length) (b:=0)) (by decide) ?_
 refine wS ?_
 refine ex_condP (p:=(B.length:Int) = 0) rfl (fun h => by omega) (fun _ => ?_)
 refine wS ?_
 refine zv (vI at') ?_
 refine zv (.rsl jo 0 B.length) ?_
 refine zv (vI B.length) ?_
 refine run_c hAr (by kernel_rfl) (by decide) rfl (im2 (imm_lit _) (imm_lit _)) ?_
 refine zv (vI (k:Int)) ?_
 refine wS ?_
 refine run_bs (l:=[]) (e:=5) (by kernel_rfl) (by decide) ?_
 refine zv (.rsl jo 0 B.length) ?_
 refine run_app ap5 (by decide) ?_
 refine zv (.rsl (c4 + 1) 0 B.length) ?_
 rw [show ((c4 + 1,some (⟨5,B.map gY,none⟩:Ob)) :: (c4,none) :: (c4,some ⟨5,[],none⟩) :: σ4:Sto) = σ5 from e5.symm]
 refine wS ?_
 refine zv (.rsl (c4 + 1) 0 B.length) ?_
 refine zv (vI (k:Int)) ?_
 refine zv (gY cb) ?_
 refine run_v (g:=.ref (c4 + 1) k) (Eq.trans (by kernel_rfl) (byt_ix (c4 + 1) k B.length hkB)) (by decide) ?_
 refine run_sto (byt_st (B:=B) (by rw [e5]; exact sget_eq rfl) hkB) ?_
 rw [← eT,← e6]
 refine wN ?_
 refine Ex.le ?_ (le_addResv 5 _)
 dsimp only [addResv]
 obtain ⟨c5,ec5⟩:∃ c5,c5 = c4 + 1 + 1:=⟨_,rfl⟩
 have hjt:c4 + 1 < c5:=by omega
 have hjo5:jo < c5:=by omega
 obtain ⟨jt,ejt⟩:∃ j,j = c4 + 1:=⟨_,rfl⟩
 rw [← ec5]
 rw [← ejt] at hT6 hjt ⊢
 have hjojt:jo ≠ jt:=by omega
 obtain ⟨σr,er⟩:∃ σr:Sto,σr = (c5 + 1 + 1 + 1 + 1,some resvOb) :: (c5 + 1 + 1 + 1,some resvOb) :: (c5 + 1 + 1,some resvOb) :: (c5 + 1,some resvOb) :: (c5,some resvOb) :: σ6:=⟨_,rfl⟩
 rw [← er]
 have kr:∀ j,j < c5 → sget σr j = sget σ6 j:=fun j hj => by rw [er,sget_ne (by omega),sget_ne (by omega),sget_ne (by omega),sget_ne (by omega),sget_ne (by omega)]
 have v0:sget σr c5 = some resvOb:=by rw [er,sget_ne (by omega),sget_ne (by omega),sget_ne (by omega),sget_ne (by omega),sget_eq rfl]
 have v1:sget σr (c5 + 1) = some resvOb:=by rw [er,sget_ne (by omega),sget_ne (by omega),sget_ne (by omega),sget_eq rfl]
 have v2:sget σr (c5 + 1 + 1) = some resvOb:=by rw [er,sget_ne (by omega),sget_ne (by omega),sget_eq rfl]
 have v3:sget σr (c5 + 1 + 1 + 1) = some resvOb:=by rw [er,sget_ne (by omega),sget_eq rfl]
 have v4:sget σr (c5 + 1 + 1 + 1 + 1) = some resvOb:=by rw [er,sget_eq rfl]
 obtain ⟨jf,ejf⟩:∃ j,j = c5 + 1 + 1 + 1 + 1 + 1:=⟨_,rfl⟩
 rw [← ejf]
 obtain ⟨X,eX⟩:∃ X,X = B ++ [cb]:=⟨_,rfl⟩
 have hXl:X.length = B.length + 1:=by rw [eX]; simp
 obtain ⟨SL,eSL⟩:∃ SL:List G,SL = [sl jf F.length,sl jo B.length,sl jt T.length,sl jo k,sl (c5 + 1 + 1 + 1) X.length]:=⟨_,rfl⟩
 refine ex_region_draw4 (inf:=[dR,.wr [] [(jf,some (obB F))] [(jf,sget σr jf)] true,dR,dR,dR,dR,dR,.wr [c5] [(c5,some (obB []))] [(c5,some resvOb)] false,dR,.wr [c5 + 1,c5,jo] [(c5 + 1,some (obB B)),(c5,none)] [(c5 + 1,some resvOb),(c5,some (obB []))] false,dR,.wr [c5 + 1 + 1] [(c5 + 1 + 1,some (obB [cb]))] [(c5 + 1 + 1,some resvOb)] false,.wr [c5 + 1 + 1 + 1,c5 + 1,c5 + 1 + 1] [(c5 + 1 + 1 + 1,some (obB X)),(c5 + 1,none)] [(c5 + 1 + 1 + 1,some resvOb),(c5 + 1,some (obB B))] false,.wr [c5 + 1 + 1 + 1 + 1] [(c5 + 1 + 1 + 1 + 1,some (slO SL))] [(c5 + 1 + 1 + 1 + 1,some resvOb)] false,dR]) mixed ?_ ?_
 ·refine drawOk4_of (pairs:=[(1,7),(1,11),(7,11),(9,11)]) (by kernel_rfl) (by kernel_rfl) ?_
  have nb:∀ x y:Nat,x ≠ y → Nat.beq x y = false:=fun x y h => by
   cases hb:Nat.beq x y
   ·rfl
   ·exact absurd (Nat.eq_of_beq_eq_true hb) h
  intro z hz
  simp only [List.mem_cons,List.not_mem_nil,or_false] at hz
  rcases hz with rfl | rfl | rfl | rfl
  ·show okS (.wr _ _ _ _) (.wr _ _ _ _) = true
   simp (disch:=omega) [okS,meets,nb]
  ·show okS (.wr _ _ _ _) (.wr _ _ _ _) = true
   simp (disch:=omega) [okS,meets,nb]
  ·show okS (.wr _ _ _ _) (.wr _ _ _ _) = true
   simp (disch:=omega) [okS,meets,nb]
  ·show okS (.wr _ _ _ _) (.wr _ _ _ _) = true
   simp (disch:=omega) [okS,meets,nb]
 refine rf_v (d:=50) (g:=.sl (raw.map gY) raw.length) rfl rfl (by show 50 < 118; decide) (by kernel_rfl) (fun t x h => by cases h) ?_
 refine rf_cr (k:=jf) (by rw [ejf]; rfl) rfl hFew (by kernel_rfl) (by show 51 < 118; decide) (by kernel_rfl) (im2 (imm_sl _ _) (imm_lit _)) (imm_lits _) ?_
 refine rf_v (d:=52) (g:=.rsl jo 0 B.length) rfl rfl (by show 52 < 118; decide) (by kernel_rfl) (fun t x h => by cases h) ?_
 refine rf_v (d:=53) (g:=.rsl jt 0 B.length) rfl rfl (by show 53 < 118; decide) (by rw [ejt]; kernel_rfl) (fun t x h => by cases h) ?_
 refine rf_v (d:=54) (g:=.rsl jo 0 B.length) rfl rfl (by show 54 < 118; decide) (by kernel_rfl) (fun t x h => by cases h) ?_
 refine rf_v (d:=55) (g:=vI (k:Int)) rfl rfl (by show 55 < 118; decide) (by kernel_rfl) (fun t x h => by cases h) ?_
 refine rf_v (d:=56) (g:=.rsl jo 0 k) rfl rfl (by show 56 < 118; decide) (Eq.trans (by kernel_rfl) (byt_pre jo B.length k (by omega))) (fun t x h => by cases h) ?_
 refine rf_w (d:=57) (g:=.rsl c5 0 0) (U:=[(c5,some (obB []))]) (R:=[c5]) c5 ?_ rfl rfl (by show 57 < 118; decide) rfl (xeff_bs rfl ?_ (Nat.ble_eq_true_of_le (show 0 ≤ c5 by omega)) (by kernel_rfl)) ?_
 ·show [(c5,some resvOb)] = [(c5,sget ((jf,some (obB F)) :: σr) c5)]
  rw [sget_ne (by omega),v0]
 ·show isResv (sget ((jf,some (obB F)) :: σr) c5) = true
  rw [sget_ne (by omega),v0]; rfl
 refine rf_v (d:=58) (g:=.rsl jo 0 B.length) rfl rfl (by show 58 < 118; decide) (by kernel_rfl) (fun t x h => by cases h) ?_
 have ap9:=byt_app (σ:=(c5,some (obB [])) :: (jf,some (obB F)) :: σr) (jo:=c5) (q:=jo) (lb:=[]) (m:=B) (sget_eq rfl) (by rw [sget_ne (by omega),sget_ne (by omega),kr jo hjo5]; exact hB6) (by simp; omega) (jf + 1)
 rw [List.nil_append] at ap9
 refine rf_w (d:=59) (g:=.rsl (c5 + 1) 0 B.length) (U:=[(c5 + 1,some (obB B)),(c5,none)]) (R:=[c5 + 1,c5,jo]) (c5 + 1) ?_ rfl rfl (by show 59 < 118; decide) rfl (xeff_app (x:=.tmp 57) (y:=.tmp 58) (k:=c5 + 1) (i:=c5) (n:=0) rfl ?_ (Nat.ble_eq_true_of_le (show 0 ≤ c5 + 1 by omega)) (by kernel_rfl) (Eq.trans (by kernel_rfl) ap9)) ?_
 ·show [(c5 + 1,some resvOb),(c5,some (obB []))] = [(c5 + 1,sget ((c5,some (obB [])) :: (jf,some (obB F)) :: σr) (c5 + 1)),(c5,sget ((c5,some (obB [])) :: (jf,some (obB F)) :: σr) c5)]
  rw [sget_ne (by omega),sget_ne (by omega),v1,sget_eq rfl]
 ·show isResv (sget ((c5,some (obB [])) :: (jf,some (obB F)) :: σr) (c5 + 1)) = true
  rw [sget_ne (by omega),sget_ne (by omega),v1]; rfl
 refine rf_v (d:=60) (g:=gY cb) rfl rfl (by show 60 < 118; decide) (by kernel_rfl) (fun t x h => by cases h) ?_
 refine rf_w (d:=61) (g:=.rsl (c5 + 1 + 1) 0 1) (U:=[(c5 + 1 + 1,some (obB [cb]))]) (R:=[c5 + 1 + 1]) (c5 + 1 + 1) ?_ rfl rfl (by show 61 < 118; decide) rfl (xeff_bs rfl ?_ (Nat.ble_eq_true_of_le (show 0 ≤ c5 + 1 + 1 by omega)) (by kernel_rfl)) ?_
 ·show [(c5 + 1 + 1,some resvOb)] = [(c5 + 1 + 1,sget ((c5 + 1,some (obB B)) :: (c5,none) :: (c5,some (obB [])) :: (jf,some (obB F)) :: σr) (c5 + 1 + 1))]
  rw [sget_ne (by omega),sget_ne (by omega),sget_ne (by omega),sget_ne (by omega),v2]
 ·show isResv (sget ((c5 + 1,some (obB B)) :: (c5,none) :: (c5,some (obB [])) :: (jf,some (obB F)) :: σr) (c5 + 1 + 1)) = true
  rw [sget_ne (by omega),sget_ne (by omega),sget_ne (by omega),sget_ne (by omega),v2]; rfl
 have ap12:=byt_app (σ:=(c5 + 1 + 1,some (obB [cb])) :: (c5 + 1,some (obB B)) :: (c5,none) :: (c5,some (obB [])) :: (jf,some (obB F)) :: σr) (jo:=c5 + 1) (q:=c5 + 1 + 1) (lb:=B) (m:=[cb]) (by rw [sget_ne (by omega)]; exact sget_eq rfl) (sget_eq rfl) (by simp; omega) (jf + 1)
 rw [← eX] at ap12
 refine rf_w (d:=62) (g:=.rsl (c5 + 1 + 1 + 1) 0 X.length) (U:=[(c5 + 1 + 1 + 1,some (obB X)),(c5 + 1,none)]) (R:=[c5 + 1 + 1 + 1,c5 + 1,c5 + 1 + 1]) (c5 + 1 + 1 + 1) ?_ rfl rfl (by show 62 < 118; decide) rfl (xeff_app (x:=.tmp 59) (y:=.tmp 61) (k:=c5 + 1 + 1 + 1) (i:=c5 + 1) (n:=B.length) rfl ?_ (Nat.ble_eq_true_of_le (show 0 ≤ c5 + 1 + 1 + 1 by omega)) (by kernel_rfl) (Eq.trans (by kernel_rfl) ap12)) ?_
 ·show [(c5 + 1 + 1 + 1,some resvOb),(c5 + 1,some (obB B))] = [(c5 + 1 + 1 + 1,sget ((c5 + 1 + 1,some (obB [cb])) :: (c5 + 1,some (obB B)) :: (c5,none) :: (c5,some (obB [])) :: (jf,some (obB F)) :: σr) (c5 + 1 + 1 + 1)),(c5 + 1,sget ((c5 + 1 + 1,some (obB [cb])) :: (c5 + 1,some (obB B)) :: (c5,none) :: (c5,some (obB [])) :: (jf,some (obB F)) :: σr) (c5 + 1))]
  rw [sget_ne (by omega),sget_ne (by omega),sget_ne (by omega),sget_ne (by omega),sget_ne (by omega),v3,sget_ne (by omega),sget_eq rfl]
 ·show isResv (sget ((c5 + 1 + 1,some (obB [cb])) :: (c5 + 1,some (obB B)) :: (c5,none) :: (c5,some (obB [])) :: (jf,some (obB F)) :: σr) (c5 + 1 + 1 + 1)) = true
  rw [sget_ne (by omega),sget_ne (by omega),sget_ne (by omega),sget_ne (by omega),sget_ne (by omega),v3]; rfl
 refine rf_w (d:=63) (g:=.rsl (c5 + 1 + 1 + 1 + 1) 0 5) (U:=[(c5 + 1 + 1 + 1 + 1,some (slO SL))]) (R:=[c5 + 1 + 1 + 1 + 1]) (c5 + 1 + 1 + 1 + 1) ?_ rfl rfl (by show 63 < 118; decide) rfl (xeff_bs rfl ?_ (Nat.ble_eq_true_of_le (show 0 ≤ c5 + 1 + 1 + 1 + 1 by omega)) (by rw [eSL,hTl]; kernel_rfl)) ?_
 ·show [(c5 + 1 + 1 + 1 + 1,some resvOb)] = [(c5 + 1 + 1 + 1 + 1,sget ((c5 + 1 + 1 + 1,some (obB X)) :: (c5 + 1,none) :: (c5 + 1 + 1,some (obB [cb])) :: (c5 + 1,some (obB B)) :: (c5,none) :: (c5,some (obB [])) :: (jf,some (obB F)) :: σr) (c5 + 1 + 1 + 1 + 1))]
  rw [sget_ne (by omega),sget_ne (by omega),sget_ne (by omega),sget_ne (by omega),sget_ne (by omega),sget_ne (by omega),sget_ne (by omega),v4]
 ·show isResv (sget ((c5 + 1 + 1 + 1,some (obB X)) :: (c5 + 1,none) :: (c5 + 1 + 1,some (obB [cb])) :: (c5 + 1,some (obB B)) :: (c5,none) :: (c5,some (obB [])) :: (jf,some (obB F)) :: σr) (c5 + 1 + 1 + 1 + 1)) = true
  rw [sget_ne (by omega),sget_ne (by omega),sget_ne (by omega),sget_ne (by omega),sget_ne (by omega),sget_ne (by omega),sget_ne (by omega),v4]; rfl
 refine rf_v (d:=19) (g:=.rsl (c5 + 1 + 1 + 1 + 1) 0 5) rfl rfl (by show 19 < 118; decide) (by kernel_rfl) (fun t x h => by cases h) ?_
 apply rf_nil
 apply thn_n
 obtain ⟨σ7,e7⟩:∃ σ7:Sto,σ7 = (c5 + 1 + 1 + 1 + 1,some (slO SL)) :: (c5 + 1 + 1 + 1,some (obB X)) :: (c5 + 1,none) :: (c5 + 1 + 1,some (obB [cb])) :: (c5 + 1,some (obB B)) :: (c5,none) :: (c5,some (obB [])) :: (jf,some (obB F)) :: σr:=⟨_,rfl⟩
 refine Ex.le (st':=⟨118,glc,[(19,.rsl (c5 + 1 + 1 + 1 + 1) 0 5)],σ7,jf + 1,0,false⟩) ?_ (by rw [e7]; exact le_frs (by repeat' (first|exact ⟨⟩|refine ⟨rfl,?_⟩)))
 have k7:∀ j,j < c5 → sget σ7 j = sget σ6 j:=fun j hj => by
  rw [e7,sget_ne (by omega),sget_ne (by omega),sget_ne (by omega),sget_ne (by omega),sget_ne (by omega),sget_ne (by omega),sget_ne (by omega),sget_ne (by omega)]; exact kr j hj
 have W7:WB σ7 (jf + 1) (c5 + 1 + 1 + 1 + 1) jf jo jt (c5 + 1 + 1 + 1) k F B T X 0:=by
  refine ⟨?_,?_,fun _ => (k7 jo hjo5).trans hB6,(k7 jt hjt).trans hT6,?_,by omega,by omega⟩
  ·rw [e7,sget_eq rfl,eSL]
  ·rw [e7,sget_ne (by omega),sget_ne (by omega),sget_ne (by omega),sget_ne (by omega),sget_ne (by omega),sget_ne (by omega),sget_ne (by omega),sget_eq rfl]
  ·rw [e7,sget_ne (by omega),sget_eq rfl]
 generalize c5 + 1 + 1 + 1 + 1 = j5 at W7 ⊢
 generalize c5 + 1 + 1 + 1 = jx at W7
 generalize jf + 1 = c7 at W7 ⊢
 refine wS ?_
 refine zv (vI ((0:Nat):Int)) ?_
 refine wS ?_
 refine ex_loop (fun t s => ∃ (q:Nat) (σ1:Sto) (c1:Nat),s = ⟨118,glc,[(19,.rsl j5 0 5),(20,vI (q:Int))],σ1,c1,0,false⟩ ∧ t = 5 - q ∧ q ≤ 5 ∧ WB σ1 c1 j5 jf jo jt jx k F B T X q) 5 (le_frs (fr':=[(19,.rsl j5 0 5),(20,vI ((0:Nat):Int))]) (by repeat' (first|exact ⟨⟩|refine ⟨rfl,?_⟩))) ⟨0,σ7,c7,rfl,rfl,by omega,W7⟩ ?_
 clear W7 k7 e7 kr er v0 v1 v2 v3 v4 hM4 hM2 hMade ap5 ap9 ap12
 rintro t s ⟨q,σ0,c1,rfl,rfl,hq,hW0⟩
 refine wS ?_
 refine zv (vI (q:Int)) ?_
 refine zv (.rsl j5 0 5) ?_
 refine run_ln rfl (by kernel_rfl) rfl (by decide) ?_
 refine run_bin rfl rfl (ltI (a:=(q:Int)) (b:=5)) (by decide) ?_
 refine wS ?_
 refine ex_condP (p:=(q:Int) < 5) rfl (fun hlt => ?_) (fun hlt => ?_)
 ·have hq5:q < 5:=by omega
  obtain ⟨j,L,σ1,hle,hSLq,hL1,hjc,hj5,hLl,hW1⟩:=hW0.pick hq5 118 glc [(41,vB true)] 0 false
  clear hle
  obtain ⟨j,L,σ1,hle,hSLq,hL1,hjc,hj5,hLl,hW1⟩:=hW0.pick hq5 118 glc [(19,.rsl j5 0 5),(20,vI (q:Int))] 0 false
  refine Ex.le (st':=⟨118,glc,[(19,.rsl j5 0 5),(20,vI (q:Int))],σ0,c1,0,false⟩) ?_ (le_frs (by repeat' (first|exact ⟨⟩|refine ⟨rfl,?_⟩)))
  refine Ex.le ?_ hle
  obtain ⟨b1,b2,b3,b4,b5,_⟩:=hW1.b
  have ix5:=slO_ix j5 q 5 hq5
  have ld1:gload Tryz.prog σ1 22 (.ref j5 q) = some (.rsl j 0 L.length):=slO_ld hW1.h5 hSLq
  -- the program's answer
  obtain ⟨w2,σ2,c2',⟨hc2,k2',ip,rfl,hip⟩,hMp⟩:=get_mc glc (.rsl j 0 L.length) L σ1 c1 (byt_view hL1) (by omega)
  have ld2:gload Tryz.prog σ2 22 (.ref j5 q) = some (.rsl j 0 L.length):=slO_ld ((k2' j5 b1).trans hW1.h5) hSLq
  -- the document's answer
  obtain ⟨w3,σ3',c3,⟨hc3,k3,d',g,rfl,hg3⟩,hMr⟩:=rget_mc glc j L σ2 c2' ((k2' j hjc).trans hL1) (by omega) (by omega)
  obtain ⟨e,ee⟩:∃ e,e = errP (rawOf L):=⟨_,rfl⟩
  have ee2:errR (rawOf L) = e:=by rw [ee,err_law]
  rw [← ee] at hMp hip
  rw [ee2] at hMr hg3
  obtain ⟨σ4',e4⟩:∃ σ4:Sto,σ4 = (c3,some (hO d' g)) :: (c3,some (hO 0 gN0)) :: σ3':=⟨_,rfl⟩
  have k4':∀ i,i < c2' → sget σ4' i = sget σ2 i:=fun i hi => by rw [e4,sget_ne (by omega),sget_ne (by omega),k3 i hi]
  have W4:WB σ4' (c3 + 1) j5 jf jo jt jx k F B T X (q + 1):=hW1.more (by omega) (fun i hi => (k4' i (by omega)).trans (k2' i hi))
  have hL4:sget σ4' j = some (obB L):=(k4' j (by omega)).trans ((k2' j hjc).trans hL1)
  obtain ⟨_,_,lw4⟩:=hO_ld (σ:=σ4') (k:=c3) (d:=d') (g:=g) (by rw [e4]; exact sget_eq rfl)
  refine wS ?_
  refine zv (.rsl j5 0 5) ?_
  refine zv (vI (q:Int)) ?_
  refine zt (.ref j5 q) ix5 ?_
  refine run_ld rfl ld1 (by decide) ?_
  refine run_m hMp [] [] (by kernel_rfl) (by kernel_rfl) (by decide) ?_
  refine zv (.tup [ip,vI e]) ?_
  refine zv (ip) ?_
  refine zv (vI e) ?_
  refine zv (ip) ?_
  refine zv (vI e) ?_
  refine wS ?_
  refine zv (.rsl j5 0 5) ?_
  refine zv (vI (q:Int)) ?_
  refine zt (.ref j5 q) ix5 ?_
  refine run_ld rfl ld2 (by decide) ?_
  refine run_m hMr [] [] (by kernel_rfl) (by kernel_rfl) (by decide) ?_
  refine zv (.tup [.agg [vI d',g],vI e]) ?_
  refine zv (.agg [vI d',g]) ?_
  refine zv (vI e) ?_
  refine run_alloc (l:=[vI 0,gN0]) (by kernel_rfl) (by decide) ?_
  refine run_sto (hO_stw (sget_eq rfl)) ?_
  refine zv (vI e) ?_
  rw [← e4]
  refine wN ?_
  refine ex_region_k (fun s => ∃ fr',s = ⟨118,glc,fr',σ4',c3 + 1,0,false⟩ ∧ FrOk fr' [(19,.rsl j5 0 5),(20,vI (q:Int)),(21,ip),(23,.ref c3 0),(95,vB false)]) ?_ ?_
  ·refine zv (vI e) ?_
   refine zv (vI e) ?_
   refine run_bin rfl rfl (neI (a:=e) (b:=e)) (by decide) ?_
   rw [decide_eq_false (show ¬ e ≠ e from fun h => h rfl)]
   by_cases he:e = 0
   ·rw [if_pos he] at hip
    obtain ⟨hip1,_,_⟩:=hip
    rw [hip1]
    refine zv (vB false) ?_
    refine zg (.ref (c1 + 4) 0) ?_
    refine ged_nc (g:=vB false) (by kernel_rfl) rfl rfl (by kernel_rfl) (by decide) ?_
    refine zg (vI e) ?_
    refine ged_bin (by kernel_rfl) rfl rfl (neI (a:=e) (b:=0)) (by decide) ?_
    rw [decide_eq_false (show ¬ e ≠ 0 from fun h => h he)]
    refine zg (vB false) ?_
    refine zv (vB false) ?_
    exact run_nil ⟨_,rfl,(by repeat' (first|exact ⟨⟩|refine ⟨rfl,?_⟩))⟩
   ·rw [if_neg he] at hip
    rw [hip]
    refine zv (vB false) ?_
    refine zg (.lit (.pointer none)) ?_
    refine zg (vB true) ?_
    refine zg (vI e) ?_
    refine ged_bin (by kernel_rfl) rfl rfl (neI (a:=e) (b:=0)) (by decide) ?_
    rw [decide_eq_true (show e ≠ 0 from he)]
    refine zg (vB false) ?_
    refine zv (vB false) ?_
    exact run_nil ⟨_,rfl,(by repeat' (first|exact ⟨⟩|refine ⟨rfl,?_⟩))⟩
  rintro s' ⟨fr',rfl,hfr⟩
  apply thn_n
  refine Ex.le ?_ (le_frs hfr)
  refine ex_condF rfl ?_
  refine wN ?_
  -- what is got is the same
  refine ex_thn (K:=fun s => ∃ fr' σ9 c9,s = ⟨118,glc,fr',σ9,c9,0,false⟩ ∧ FrOk fr' [(19,.rsl j5 0 5),(20,vI (q:Int)),(116,vB false)] ∧ WB σ9 c9 j5 jf jo jt jx k F B T X (q + 1)) ?_ ?_
  ·by_cases he:e = 0
   ·rw [if_pos he] at hip
    obtain ⟨hip1,hci,hHold⟩:=hip
    obtain ⟨rfl,r8,hr8,hr8b⟩:=hg3 he
    have got:Got (rawOf L):=got_of (ee ▸ he)
    have hits:=raw_len L
    have hputL:rawB (rawOf L) = L:=(raw_ok got.s).symm
    have hput:=got.put
    rw [hputL] at hput
    have hterms:=got.terms
    have hnames:=got.names
    have hsmall:=got.small
    have hwfn:=got.wf
    have hpriv:=got.priv
    have hd1:=got.d
    have hkl:(accOf (rawOf L)).kp.length ≤ 1001:=by
     rw [got.kp,List.length_append,List.length_map]
     unfold leadM
     split <;> simp <;> omega
    have hkeys:(keysR (rawOf L)).length ≤ 1001:=by
     unfold keysR leadK
     rw [List.length_append,List.length_map]
     split <;> simp <;> omega
    clear got
    generalize (rawOf L).d = d at *
    generalize (accOf (rawOf L)).kp = kp at *
    generalize keysR (rawOf L) = keys at *
    obtain ⟨srt,esrt⟩:∃ srt,srt = kp.map (·.1):=⟨_,rfl⟩
    rw [← esrt] at hput hterms hnames hsmall hwfn
    have hperm:(kp.map (·.1)).Perm srt:=by rw [esrt]
    -- what the calls see
    obtain ⟨σA,eA⟩:∃ σA:Sto,σA = [(c1 + 4,some (holdO d (c1 + 3))),(c1 + 3,some (mapN kp))]:=⟨_,rfl⟩
    have hA1:HoldAt σA (c1 + 4) (c1 + 3) d kp:=⟨by omega,by rw [eA]; exact sget_eq rfl,by rw [eA,sget_ne (by omega)]; exact sget_eq rfl⟩
    have hA2:∀ i o,sget σA i = some o → i ∈ [c1 + 4,c1 + 3] ∧ sget σ4' i = some o:=fun i o hi => by
     rw [eA,sget_cons] at hi
     split at hi
     ·rename_i e1; subst e1; cases hi
      exact ⟨by simp,(k4' _ hci).trans hHold.i⟩
     ·rw [sget_cons] at hi
      split at hi
      ·rename_i e1; subst e1; cases hi
       exact ⟨by simp,(k4' _ (by omega)).trans hHold.m⟩
      ·cases hi
    obtain ⟨v4,σB,c5',⟨r4,hr4,hr4b,hc5',k5'⟩,hM4'⟩:=terms_mc glc (c3 + 1) hA1 (by omega) (by omega) srt hperm hnames hsmall (by omega)
    obtain ⟨U4,eU4⟩:∃ U4,U4 = rowU 105 (srt.flatMap (termC d)) r4:=⟨_,rfl⟩
    have hU4:∀ k o,sget U4 k = some o → sget σB k = some o:=fun k o hk => by
     rw [eU4] at hk
     obtain ⟨h1,rfl⟩:=rowU_get hk
     subst h1
     exact rowA_obj hr4
    have o4:∀ k,k < c3 + 1 → sget (U4 ++ σ4') k = sget σ4' k:=fun k hk => by
     rw [eU4]; exact rowU_over fun j hj => by have:=hr4b j hj; omega
    have hrow8:RowA cK 6 81 (rowU 81 (keys.flatMap cK) r8) g keys r8:=rowU_row hr8
    obtain ⟨v6,σC,c6',⟨r6,hr6,hr6b,hc6',k6'⟩,hM6'⟩:=terms23_mc glc (d:=d) c5' hrow8 (fun z hz => by have:=hr8b z hz; omega) (by omega)
    obtain ⟨U6,eU6⟩:∃ U6,U6 = rowU 105 ((keys.map (tK d)).flatMap cT) r6:=⟨_,rfl⟩
    have hU6:∀ k o,sget U6 k = some o → sget σC k = some o:=fun k o hk => by
     rw [eU6] at hk
     obtain ⟨h1,rfl⟩:=rowU_get hk
     subst h1
     exact rowA_obj hr6
    have o6:∀ k,k < c5' → sget (U6 ++ (U4 ++ σ4')) k = sget (U4 ++ σ4') k:=fun k hk => by
     rw [eU6]; exact rowU_over fun j hj => by have:=hr6b j hj; omega
    obtain ⟨lt,elt⟩:∃ lt,lt = keys.map (tK d):=⟨_,rfl⟩
    have hr4t:=rowT_of d hr4
    rw [hterms,← elt] at hr4t
    rw [← elt] at hr6 eU6
    have eC4:srt.flatMap (termC d) = lt.flatMap cT:=by
     rw [elt,← hterms]
     exact termC_flat d srt
    rw [eC4] at eU4
    obtain ⟨σE,eE⟩:∃ σE:Sto,σE = rowU 105 (lt.flatMap cT) r4 ++ (rowU 105 (lt.flatMap cT) r6 ++ []):=⟨_,rfl⟩
    have hE4:RowA cT 6 105 σE v4 lt r4:=rowA_app2 hr4t fun j hj => by rw [eE,hj]; exact rowU_hit
    have hE6:RowA cT 6 105 σE v6 lt r6:=rowA_app2 hr6 fun j hj => by
     rw [eE,rowU_over fun z hz => by have:=hr4b z hz; have:=hr6b j hj; omega,hj]
     exact rowU_hit
    have hS7:=same_mc glc c6' hE4 hE6 (by rw [elt,List.length_map]; omega)
    have hE2:∀ i o,sget σE i = some o → i ∈ r4.toList ++ r6.toList ∧ sget (U6 ++ (U4 ++ σ4')) i = some o:=fun i o hi => by
     rw [eE] at hi
     rcases sget_append_some hi with h1 | ⟨hn,h1⟩
     ·obtain ⟨rfl,rfl⟩:=rowU_get h1
      have hb:=hr4b i rfl
      refine ⟨by simp,?_⟩
      rw [o6 i (by omega),eU4]
      exact rowU_hit
     ·rw [List.append_nil] at h1
      obtain ⟨rfl,rfl⟩:=rowU_get h1
      refine ⟨by simp,?_⟩
      rw [eU6]
      exact rowU_hit
    obtain ⟨v11,σD,c7',⟨jp,rfl,hjp,hjp1,hjp2,k7'⟩,hM11⟩:=put_mc glc c6' hA1 (by omega) (by omega) srt hperm hnames hsmall (by omega) (by unfold Is64; omega) hwfn hpriv
    rw [hput] at hM11 hjp
    have hA3:∀ i o,sget σA i = some o → i ∈ [c1 + 4,c1 + 3] ∧ sget (U6 ++ (U4 ++ σ4')) i = some o:=fun i o hi => by
     obtain ⟨h1,h2⟩:=hA2 i o hi
     refine ⟨h1,?_⟩
     have:i < c3 + 1:=by
      simp only [List.mem_cons,List.not_mem_nil,or_false] at h1
      omega
     rw [o6 i (by omega),o4 i this]; exact h2
    have hU11:∀ k o,sget [(jp,some (obB L))] k = some o → sget σD k = some o:=fun k o hk => by
     rw [sget_cons] at hk
     split at hk
     ·rename_i e1; subst e1; cases hk; exact hjp
     ·cases hk
    have o11:∀ k,k < c3 + 1 → sget ([(jp,some (obB L))] ++ (U6 ++ (U4 ++ σ4'))) k = sget σ4' k:=fun k hk => by
     rw [List.singleton_append,sget_ne (by omega),o6 k (by omega),o4 k hk]
    obtain ⟨Lh,eLh⟩:∃ x,x = σ4':=⟨_,rfl⟩
    rw [hip1]
    refine ex_region_draw4 (inf:=[dR,dR,dR,dR,.wr [c1 + 4,c1 + 3] U4 (U4.map fun q => (q.1,sget σ4' q.1)) true,.rd [c3] (fun _ => false),.wr r8.toList U6 (U6.map fun q => (q.1,sget (U4 ++ σ4') q.1)) true,.wr (r4.toList ++ r6.toList) [] [] true,dR,dR,dR,.wr [c1 + 4,c1 + 3] [(jp,some (obB L))] [(jp,sget (U6 ++ (U4 ++ σ4')) jp)] true,.rd [jp] (fun _ => false),dR,dR,dR,.rd [j5] (fun _ => false),.rd [j] (fun _ => false),dR,dR,dR]) mixed ?_ ?_
    ·refine drawOk4_of (pairs:=[(4,5),(11,16),(12,16),(11,17),(12,17)]) (by kernel_rfl) (by kernel_rfl) ?_
     intro z hz
     simp only [List.mem_cons,List.not_mem_nil,or_false] at hz
     rcases hz with rfl | rfl | rfl | rfl | rfl
     ·refine okS_wr (fun y hy => ?_)
      have hy:y ∈ U4.map (·.1):=hy
      rw [eU4] at hy
      have:=hr4b y (rowU_keys hy)
      simp only [List.mem_cons,List.not_mem_nil,or_false]
      omega
     ·refine okS_wr (fun y hy => ?_)
      simp only [List.map_cons,List.map_nil,List.mem_cons,List.not_mem_nil,or_false] at hy ⊢
      omega
     ·exact (rfl:okS (.rd _ _) (.rd _ _) = true)
     ·refine okS_wr (fun y hy => ?_)
      simp only [List.map_cons,List.map_nil,List.mem_cons,List.not_mem_nil,or_false] at hy ⊢
      omega
     ·exact (rfl:okS (.rd _ _) (.rd _ _) = true)
    refine rf_v (d:=96) (g:=.ref (c1 + 4) 0) rfl rfl (by show 96 < 118; decide) (by kernel_rfl) (fun t x h => by cases h) ?_
    refine rfg_nc (d:=97) (g:=vB true) (by kernel_rfl) (by show 97 < 118; decide) rfl rfl (by kernel_rfl) ?_
    refine rf_v (d:=98) (g:=vB true) rfl rfl (by show 98 < 118; decide) (by kernel_rfl) (fun t x h => by cases h) ?_
    refine rfg_v (d:=99) (g:=.ref (c1 + 4) 0) (by kernel_rfl) rfl (by show 99 < 118; decide) (by kernel_rfl) (fun t x h => by cases h) ?_
    refine rfg_m (c:=c3 + 1) (by kernel_rfl) rfl rfl hM4' k5' hU4 [] [] rfl (by kernel_rfl) (by show 100 < 118; decide) hA2 ?_
    refine rfg_ld (d:=101) (i:=c3) (k:=0) (g:=.agg [vI d,g]) (by kernel_rfl) (by show 101 < 118; decide) rfl ?_ ?_
    ·have:gload Tryz.prog (U4 ++ σ4') 36 (.ref c3 0) = some (.agg [vI d,g]):=(hO_ld (by rw [o4 c3 (by omega),e4]; exact sget_eq rfl)).2.2
     exact this
    refine rfg_m (c:=c5') (by kernel_rfl) rfl rfl hM6' k6' hU6 [] [] rfl (by kernel_rfl) (by show 102 < 118; decide) (fun i o hi => ?_) ?_
    ·obtain ⟨h1,rfl⟩:=rowU_get hi
     have hb:=hr8b i h1
     refine ⟨by rw [h1]; simp,?_⟩
     show sget (U4 ++ σ4') i = _
     rw [o4 i (by omega),e4,sget_ne (by omega),sget_ne (by omega)]
     subst h1
     exact rowA_obj hr8
    refine rfg_m (c:=c6') (U:=[]) (by kernel_rfl) rfl rfl hS7 (fun k hk => rfl) (fun k o hk => by cases hk) [] [] rfl (by kernel_rfl) (by show 103 < 118; decide) hE2 ?_
    refine rfg_v (d:=104) (g:=vB false) (by kernel_rfl) rfl (by show 104 < 118; decide) (by kernel_rfl) (fun t x h => by cases h) ?_
    refine rfg_v (d:=105) (g:=vB false) (by kernel_rfl) rfl (by show 105 < 118; decide) (by kernel_rfl) (fun t x h => by cases h) ?_
    refine rfg_v (d:=106) (g:=.ref (c1 + 4) 0) (by kernel_rfl) rfl (by show 106 < 118; decide) (by kernel_rfl) (fun t x h => by cases h) ?_
    refine rfg_m (c:=c6') (U:=[(jp,some (obB L))]) (by kernel_rfl) rfl rfl hM11 k7' hU11 [] [] rfl (by kernel_rfl) (by show 107 < 118; decide) hA3 ?_
    refine rfg_str (d:=108) (e:=5) (j:=jp) (m:=L.length) (s:=L) (by kernel_rfl) (by show 108 < 118; decide) (by kernel_rfl) (by kernel_rfl) (by kernel_rfl) rfl (byt_view (sget_eq rfl)) ?_
    refine rfg_v (d:=109) (g:=.rsl j5 0 5) (by kernel_rfl) rfl (by show 109 < 118; decide) (by kernel_rfl) (fun t x h => by cases h) ?_
    refine rfg_v (d:=110) (g:=vI (q:Int)) (by kernel_rfl) rfl (by show 110 < 118; decide) (by kernel_rfl) (fun t x h => by cases h) ?_
    refine rfg_v (d:=111) (g:=.ref j5 q) (by kernel_rfl) rfl (by show 111 < 118; decide) (Eq.trans (by kernel_rfl) ix5) (fun t x h => by cases h) ?_
    refine rfg_ld (d:=112) (i:=j5) (k:=q) (g:=.rsl j 0 L.length) (by kernel_rfl) (by show 112 < 118; decide) rfl ?_ ?_
    ·have:gload Tryz.prog ([(jp,some (obB L))] ++ (U6 ++ (U4 ++ σ4'))) 22 (.ref j5 q) = some (.rsl j 0 L.length):=slO_ld ((o11 j5 (by omega)).trans W4.h5) hSLq
     exact this
    refine rfg_str (d:=113) (e:=5) (j:=j) (m:=L.length) (s:=L) (by kernel_rfl) (by show 113 < 118; decide) (by kernel_rfl) (by kernel_rfl) (by kernel_rfl) rfl ?_ ?_
    ·have:gview ([(jp,some (obB L))] ++ (U6 ++ (U4 ++ σ4'))) 1 (.rsl j 0 L.length) = some (L.map gY,L.length):=byt_view ((o11 j (by omega)).trans hL4)
     exact this
    refine rfg_v (d:=114) (g:=vB false) (by kernel_rfl) rfl (by show 114 < 118; decide) (by rw [ev_bin]; exact neqS _) (fun t x h => by cases h) ?_
    refine rfg_v (d:=115) (g:=vB false) (by kernel_rfl) rfl (by show 115 < 118; decide) (by kernel_rfl) (fun t x h => by cases h) ?_
    refine rfg_v (d:=116) (g:=vB false) (by kernel_rfl) rfl (by show 116 < 118; decide) (by kernel_rfl) (fun t x h => by cases h) ?_
    apply rf_nil
    exact ⟨rfl,_,[(jp,some (obB L))] ++ (U6 ++ (U4 ++ σ4')),c7',rfl,(by repeat' (first|exact ⟨⟩|refine ⟨rfl,?_⟩)),W4.more (by omega) o11⟩
   ·rw [if_neg he] at hip
    rw [hip]
    refine ex_region_draw (bars:=[]) mixed (by kernel_rfl) ?_
    refine zd (.lit (.pointer none)) ?_
    refine zd (vB false) ?_
    refine zd (vB false) ?_
    refine zm ?_
    refine zm ?_
    refine zm ?_
    refine zm ?_
    refine zm ?_
    refine zm ?_
    refine zm ?_
    refine zm ?_
    refine zm ?_
    refine zm ?_
    refine zm ?_
    refine zm ?_
    refine zm ?_
    refine zm ?_
    refine zm ?_
    refine zm ?_
    refine zm ?_
    refine zd (vB false) ?_
    apply rund_nil
    exact ⟨rfl,_,σ4',c3 + 1,rfl,(by repeat' (first|exact ⟨⟩|refine ⟨rfl,?_⟩)),W4⟩
  rintro s ⟨fr',σ9,c9,rfl,hfr,W9⟩
  refine Ex.le ?_ (le_frs hfr)
  refine ex_condF rfl ?_
  refine wS ?_
  refine zv (vI (q:Int)) ?_
  refine run_v (g:=vI ((q + 1:Nat):Int)) (Eq.trans (by kernel_rfl) (congrArg some (show G.lit (.int .i64 (IntKind.i64.wrap ((q:Int) + 1))) = _ by rw [w64 (by omega)]; rfl))) (by decide) ?_
  refine zv (vI ((q + 1:Nat):Int)) ?_
  refine wS ?_
  exact ⟨5 - (q + 1),_,by omega,le_frs (fr':=[(19,.rsl j5 0 5),(20,vI ((q + 1:Nat):Int))]) (by repeat' (first|exact ⟨⟩|refine ⟨rfl,?_⟩)),q + 1,σ9,c9,rfl,rfl,by omega,W9⟩
 ·refine wS ?_
  refine run_c lives_fn (by kernel_rfl) (by decide) rfl im0 ?_
  refine zv (vB true) ?_
  refine wS ?_
  exact ended_r rfl (frz_bool rfl)
end Go.Proofs.YtpehhhbmobmedaaGreatDoor
