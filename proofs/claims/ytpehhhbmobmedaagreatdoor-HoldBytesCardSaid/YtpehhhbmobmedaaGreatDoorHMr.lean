/- op.present, op.range1: their walks through maps, in any order; for the runner. -/
import Derived.Test.YtpehhhbmobmedaaGreatDoorFN
import Derived.Test.YtpehhhbmobmedaaGreatDoorHTp
namespace Go.Proofs.YtpehhhbmobmedaaGreatDoor
set_option linter.unusedVariables false
set_option linter.unusedSimpArgs false
set_option linter.unusedSectionVars false
section
open Go.RowKit
/-! ### pieces of code -/
def seqs (l:List Code) (b:Code):Code:=match l with
 | [] => b
 | a :: r => .seq a (seqs r b)
def seqL:Code → Code
 | .seq a _ => a
 | _ => .skip
def seqR:Code → Code
 | .seq _ b => b
 | _ => .skip
def regOps:Code → List Oper
 | .region _ ops _ => ops.toList
 | _ => []
def spine (run:XRun):List Code → St → Option (Exit × St)
 | [],s => some (.normal,s)
 | a :: r,s => match run a s noLow with
  | some [(.normal,s',_)] => spine run r s'
  | some [(.ret,s',_)] => some (.ret,s')
  | _ => none
theorem spine_tr {P:Program} {run:XRun} (hr:RunOk P run) {b:Code} {Q:Exit → St → Prop} {e:Exit} {s':St}:∀ {l:List Code} {s:St},spine run l s = some (e,s') → (e = .normal → Tr P b s' Q) → (e = .ret → ∀ s2,Eqv s2 s' → Q .ret s2) → Tr P (seqs l b) s Q
 | [],s,h,h1,h2 => by
  cases h
  exact h1 rfl
 | a :: r,s,h,h1,h2 => by
  unfold spine at h
  split at h
  ·rename_i s1 lo hm
   refine tr_seq ((hr.tr _ _ _ _ hm).mono fun e' s2 hp => ?_)
   obtain ⟨rfl,he⟩:=post_one hp
   exact thn_n ((spine_tr hr h h1 h2).le he.le)
  ·rename_i s1 lo hm
   cases h
   refine tr_seq ((hr.tr _ _ _ _ hm).mono fun e' s2 hp => ?_)
   obtain ⟨rfl,he⟩:=post_one hp
   exact thn_x (by simp) (h2 rfl s2 he)
  ·cases h
def mlFr (P:Program) (E:XEnv) (run:XRun) (mi:Nat):List Oper → St → Fr → Option Fr
 | [],s,V => some V
 | o :: r,s,V => match o.op with
  | .makeMap .. => (match o.dst with
   | some d => mlFr P E run mi r { s with fr:=(d,.mref mi) :: s.fr } ((d,.mref mi) :: V)
   | none => none)
  | .insert .. => mlFr P E run mi r s V
  | .range .. => (match o.dst with
   | some d => mlFr P E run mi r { s with fr:=(d,.ref (mi + 1) 0) :: s.fr } ((d,.ref (mi + 1) 0) :: V)
   | none => none)
  | _ => (match o.dst,xval P E run o s with
   | some d,some g => forceG g fun g => mlFr P E run mi r { s with fr:=(d,g) :: s.fr } ((d,g) :: V)
   | _,_ => none)
def entOk (q:Value × G):Bool:=match q.1 with
 | .int .i64 (.ofNat m) => Nat.blt m 1048576 && (match q.2 with
  | .lit (.bool _) => true
  | _ => false)
 | _ => false
theorem entOk_spec {q:Value × G} (h:entOk q = true):∃ m b,q.1 = .int .i64 (.ofNat m) ∧ m < 1048576 ∧ q.2 = .lit (.bool b):=by
 unfold entOk at h
 split at h
 ·rename_i m hm
  simp only [Bool.and_eq_true] at h
  obtain ⟨h1,h2⟩:=h
  split at h2
  ·rename_i b hb
   exact ⟨m,b,hm,Nat.le_of_ble_eq_true h1,hb⟩
  ·cases h2
 ·cases h
def orEnts:List (Value × G) → Nat
 | [] => 0
 | q :: r => mVal q.1 q.2 ||| orEnts r
theorem orAll_bit (i:Nat):∀ (es:Ents),(orAll es).testBit i = true ↔ ∃ e ∈ es,(mVal e.1 e.2.1).testBit i = true
 | [] => by simp [orAll]
 | e :: r => by
  unfold orAll
  rw [Nat.testBit_or,Bool.or_eq_true,orAll_bit i r]
  simp
theorem orEnts_bit (i:Nat):∀ (l:List (Value × G)),(orEnts l).testBit i = true ↔ ∃ q ∈ l,(mVal q.1 q.2).testBit i = true
 | [] => by simp [orEnts]
 | e :: r => by
  unfold orEnts
  rw [Nat.testBit_or,Bool.or_eq_true,orEnts_bit i r]
  simp
theorem orAll_ents {l:List (Value × G)} {es:Ents} {clock:Nat} (h:MapOf l es clock):orAll es = orEnts l:=by
 refine Nat.eq_of_testBit_eq fun i => ?_
 rw [Bool.eq_iff_iff,orAll_bit,orEnts_bit]
 constructor
 ·rintro ⟨e,he,hb⟩
  exact ⟨_,h.sub e he,hb⟩
 ·rintro ⟨q,hq,hb⟩
  obtain ⟨n,hn⟩:=h.sup q hq
  exact ⟨_,hn,hb⟩

/-! ### the runner for these -/
def pfM:List Nat:=[236,237,238]
def EM:XEnv:={ pf:=fun f => pfM.any (Nat.beq f),tp:=tpA }
theorem EM_kc:KcOk Tryz.prog EM:=⟨(fun _ _ _ _ _ _ h => by cases h),(fun _ _ _ _ _ _ _ h => by cases h)⟩
noncomputable def runM:XRun:=xcode Tryz.prog EM 100000
theorem runM_ok:RunOk Tryz.prog runM:=(xcode_ok mixed tpA_ok EM_kc 100000).toRunOk

/-! ### op.present -/
noncomputable def bdP:Code:=(Tryz.f177.body).getD .skip
noncomputable def pA:Code:=seqL bdP
noncomputable def pB:Code:=seqL (seqR bdP)
noncomputable def pM:Code:=seqL (seqL (seqR (seqR bdP)))
noncomputable def pL:Code:=seqR (seqL (seqR (seqR bdP)))
noncomputable def pR:Code:=seqR (seqR (seqR bdP))
noncomputable def pOps:List Oper:=regOps pM
theorem bodyP:Tryz.f177.body = some (seqs [pA,pB] (.seq (.seq pM pL) pR)):=by kernel_rfl
theorem pM_eq:pM = .region 2 pOps.toArray true:=by kernel_rfl
theorem pStat:mlStat Tryz.prog 75 169 3 4 pOps 74 = true:=by kernel_rfl
noncomputable def presS (s:St) (vals:Fr):Option G :=
 bif mlDyn Tryz.prog EM runM s vals pOps && gEqX 16 (fget (vals ++ s.fr) 3) (.lit (.int .i64 0)) && gEqX 16 (fget (vals ++ s.fr) 64) (.ref (s.c + 1) 0) && (pOps.filterMap (entOf (sAll s vals))).all entOk && Nat.beq s.n 75 then
  some (.lit (.int .i64 (orEnts (pOps.filterMap (entOf (sAll s vals))):Nat))) else none
noncomputable def tpPres (gs:List G) (gl:List (Nat × List G)):Option G:=bif Nat.beq gs.length 1 then (match spine runM [pA,pB] (St.enter Tryz.f177 gl gs) with
 | some (.normal,s) => match mlFr Tryz.prog EM runM s.c pOps s [] with
  | some vals => presS s vals
  | none => none
 | _ => none) else none
theorem bl_or64 {P:Program} {t:TypeId} {x y:Operand} {a b:Nat} (ha:a < 1048576) (hb:b < 1048576):gbin P .or t x y (.lit (.int .i64 (a:Int))) (.lit (.int .i64 (Int.ofNat b))) = some (.lit (.int .i64 ((a ||| b:Nat):Int))):=gb_or64 (by omega) (by omega)
attribute [local irreducible] Tr Run RunD GS TG Le Wk Frz Fn' ImmG Flat WkFr WkSt
theorem le_cut {P:Program} {st:St} {fr:Fr} {σ:Sto} (hf:∀ i,fget fr i = fget st.fr i ∨ fget fr i = .junk) (hσ:∀ i o,sget σ i = some o → sget st.σ i = some o):Le P st { st with fr:=fr,σ:=σ }:=by
 refine Le.trans (b:={ st with fr:=fr }) (le_fr hf) ?_
 unfold Le
 intro cx a w r
 exact Sub.rel (st:={ st with fr:=fr }) (st':={ st with fr:=fr,σ:=σ }) ⟨rfl,rfl,fun _ => rfl,hσ,rfl,rfl,rfl⟩ r
theorem fget_two {a b:Nat} {g h:G} {fr:Fr} (h1:fget fr a = g) (h2:fget fr b = h) (i:Nat):fget [(a,g),(b,h)] i = fget fr i ∨ fget [(a,g),(b,h)] i = .junk:=by
 rw [fget_cons,fget_cons]
 split
 ·rename_i e; subst e; exact .inl h1.symm
 ·split
  ·rename_i e; subst e; exact .inl h2.symm
  ·exact .inr rfl
theorem sget_two {a b:Nat} {x y:Option Ob} {σ:Sto} (i:Nat) (o:Ob) (h:sget [(a,x),(b,y)] i = some o):sget ((a,x) :: (b,y) :: σ) i = some o:=by
 rw [sget_cons,sget_cons] at h ⊢
 split at h
 ·rename_i e; rw [if_pos e]; exact h
 ·rename_i e
  rw [if_neg e]
  split at h
  ·rename_i e2; rw [if_pos e2]; exact h
  ·cases h
theorem sget_three {a b:Nat} {x x' y:Option Ob} {σ:Sto} (i:Nat) (o:Ob) (h:sget [(a,x),(b,y)] i = some o):sget ((a,x) :: (a,x') :: (b,y) :: σ) i = some o:=by
 rw [sget_cons,sget_cons] at h
 rw [sget_cons,sget_cons,sget_cons]
 split at h
 ·rename_i e; rw [if_pos e]; exact h
 ·rename_i e
  rw [if_neg e,if_neg e]
  split at h
  ·rename_i e2; rw [if_pos e2]; exact h
  ·cases h
theorem or_wrap {a m:Nat} (ha:a < 1048576) (hm:m < 1048576):G.lit (.int .i64 (IntKind.i64.wrap ((a % 2 ^ IntKind.i64.bits ||| m % 2 ^ IntKind.i64.bits:Nat):Int))) = .lit (.int .i64 ((a ||| m:Nat):Int)):=by
 have e1:a % 2 ^ IntKind.i64.bits = a:=Nat.mod_eq_of_lt (by show a < 2 ^ 64; omega)
 have e2:m % 2 ^ IntKind.i64.bits = m:=Nat.mod_eq_of_lt (by show m < 2 ^ 64; omega)
 have h2:a ||| m < 2 ^ 20:=Nat.or_lt_two_pow ha hm
 rw [e1,e2,w64 (by omega)]
theorem find_born {n:Nat} {k:Value} {g:G}:∀ {es:Ents},(es.map (·.2.2)).Nodup → (k,g,n) ∈ es → es.find? (fun e => Nat.beq e.2.2 n) = some (k,g,n)
 | e :: r,hd,h => by
  simp only [List.map_cons,List.nodup_cons] at hd
  rw [List.find?_cons]
  rcases List.mem_cons.1 h with rfl | h
  ·simp only [Nat.beq_refl]
  ·have:Nat.beq e.2.2 n = false:=by
    cases hb:Nat.beq e.2.2 n with
    | false => rfl
    | true => exact absurd (List.mem_map.2 ⟨_,h,(Nat.eq_of_beq_eq_true hb).symm⟩) hd.1
   rw [this]
   exact find_born hd.2 h
theorem gentry_at {σ:Sto} {g:G} {iti mi since clock n:Nat} {T ty:TypeId} {seen:List Nat} {es:Ents} {k:Value} {v:G} (hi:giter σ g = some (iti,T,some mi,since,seen ++ [n],clock)) (hm:gmap σ (.mref mi) = some (mi,ty,es,clock)) (hd:(es.map (·.2.2)).Nodup) (h:(k,v,n) ∈ es):gentry σ g = some (.tup [glit k,v]):=by
 unfold gentry
 rw [hi]
 simp only [hm,List.getLast?_append,List.getLast?_singleton,Option.some_or,Nat.beq_refl,cond_true,find_born hd h]
set_option maxHeartbeats 2000000 in
theorem pres_walk (s:St) (vals:Fr) (r:G) (h:presS s vals = some r):Tr Tryz.prog (.seq (.seq pM pL) pR) s (Ended Tryz.prog Tryz.f177 r):=by
 obtain ⟨n0,gl,fr,σ,c,p,rr⟩:=s
 unfold presS at h
 cases hc:(mlDyn Tryz.prog EM runM ⟨n0,gl,fr,σ,c,p,rr⟩ vals pOps && gEqX 16 (fget (vals ++ fr) 3) (.lit (.int .i64 0)) && gEqX 16 (fget (vals ++ fr) 64) (.ref (c + 1) 0) && (pOps.filterMap (entOf (sAll ⟨n0,gl,fr,σ,c,p,rr⟩ vals))).all entOk && Nat.beq n0 75) with
 | false => rw [hc] at h; cases h
 | true =>
 rw [hc] at h
 simp only [cond_true,Option.some.injEq] at h
 simp only [Bool.and_eq_true,List.all_eq_true] at hc
 obtain ⟨⟨⟨⟨h1,h2⟩,h3⟩,h4⟩,h5⟩:=hc
 have h2:=gEqX_spec 16 _ _ h2
 have h3:=gEqX_spec 16 _ _ h3
 obtain rfl:=Nat.eq_of_beq_eq_true h5
 generalize hE:pOps.filterMap (entOf (sAll ⟨75,gl,fr,σ,c,p,rr⟩ vals)) = ents at h h4
 refine tr_seq (tr_seq ?_)
 rw [pM_eq]
 refine tr_maplit (E:=EM) (run:=runM) (st:=⟨75,gl,fr,σ,c,p,rr⟩) mixed runM_ok tpA_ok pStat h1 fun es clock hM => ?_
 rw [hE] at hM
 refine thn_n ?_
 have hk:∀ e ∈ es,mKey e.1 < 2 ^ 20:=fun e he => by
  obtain ⟨m,b,e1,e2,_⟩:=entOk_spec (h4 _ (hM.sub e he))
  have e1:e.1 = _:=e1
  rw [e1]
  exact e2
 have hlt:∀ seen,orAcc seen es < 1048576:=fun seen => orAcc_lt hk
 unfold pL bdP Tryz.f177
 simp only [seqL,seqR,Option.getD_some]
 refine tr_mapwalk (it:=64) (a:=65) (b:=66) (iti:=c + 1) (mi:=c) (clock:=clock) (since:=clock) (T:=169) (ty:=169) (es:=es)
  (S:=fun seen => ⟨75,gl,[(3,.lit (.int .i64 (orAcc seen es:Nat))),(64,.ref (c + 1) 0)],[(c + 1,some ⟨169,[],some (.iter (some c) clock seen clock)⟩),(c,some ⟨169,[],some (.map es clock)⟩)],c + 2,p,rr⟩) (fun _ => True) trivial hM.lt rfl ?_ (fun seen => ?_) (fun seen => ?_) (fun seen => ⟨show 65 < 75 by decide,show 66 < 75 by decide⟩) (fun seen k g n _ hm hn => ?_) (fun seen _ hs => ?_)
 ·simp only [orAcc_nil]
  exact le_cut (st:=⟨75,gl,vals ++ fr,_,c + 2,p,rr⟩) (fget_two h2 h3) sget_two
 ·simp [giter,gev,fget_cons,sget_cons]
 ·simp [gmap,sget_cons]
 ·obtain ⟨m,b,e1,e2,e3⟩:=entOk_spec (h4 _ (hM.sub _ hm))
  have e1:k = _:=e1
  have e3:g = _:=e3
  subst e1 e3
  have hge:gentry [(c + 1,some ⟨169,[],some (.iter (some c) clock (seen ++ [n]) clock)⟩),(c + 1,some ⟨169,[],some (.iter (some c) clock seen clock)⟩),(c,some ⟨169,[],some (.map es clock)⟩)] (.ref (c + 1) 0) = some (.tup [glit (.int .i64 (.ofNat m)),.lit (.bool b)]) :=
   gentry_at (iti:=c + 1) (mi:=c) (since:=clock) (clock:=clock) (T:=169) (ty:=169) (seen:=seen) (by simp [giter,sget_cons]) (by simp [gmap,sget_cons]) hM.nd hm
  clear e1 e3
  dsimp only
  refine tr_block (tr_seq (tr_region (run_e rfl (gs_entry (g:=.tup [glit (.int .i64 (.ofNat m)),.lit (.bool b)]) rfl (fun d e => by cases e; show 67 < 75; decide) ?_) ?_)))
  ·exact hge
  simp only [St.put,glit_int]
  cases b with
  | true =>
   refine wM ?_
   refine tr_condT (by simp) ?_
   repeat' (first | apply tr_seq | apply tr_region | apply run_nil | apply thn_n | apply thn_e | apply thn_r | apply blk_e | apply blk_n | apply blk_r | (refine blk_ne ?_ ?_; decide) | apply tr_block | apply tr_skip | apply tr_label | apply tr_exit | apply tr_ret | (refine tr_region_draw (bars:=[]) mixed (by kernel_rfl) ?_) | apply rund_nil | ((first | apply run_v | apply rund_v); simp (disch:=omega) [if_pos,bl_or64 (hlt seen) e2]; (first | rfl | exact ⟨rfl,rfl⟩); decide) | ((first | apply run_bs | apply run_app | apply run_build | apply run_box | apply run_alloc | apply rund_build); simp (disch:=omega) [if_pos,bl_or64 (hlt seen) e2]; (first | rfl | exact ⟨rfl,rfl⟩ | exact ⟨rfl,rfl,rfl,rfl⟩); decide) | (apply run_sto; simp (disch:=omega) [if_pos,bl_or64 (hlt seen) e2]; rfl))
   refine ⟨trivial,?_⟩
   refine le_cut (st:=⟨75,gl,_,_,c + 2,p,rr⟩) (fget_two (by rw [fget_cons,if_pos rfl,orAcc_add hn hm hM.nd]; exact or_wrap (hlt seen) e2) (by simp)) (fun i o h => sget_three i o h)
  | false =>
   refine wM ?_
   refine tr_condF (by simp) ?_
   refine wM ?_
   refine ⟨trivial,?_⟩
   refine le_cut (st:=⟨75,gl,_,_,c + 2,p,rr⟩) (fget_two (by simp; rw [orAcc_add hn hm hM.nd]; simp [mVal,mHas]) (by simp)) (fun i o h => sget_three i o h)
 ·dsimp only
  subst h
  refine wM ?_
  refine ended_r rfl (frz_int ?_)
  rw [orAcc_all hs,orAll_ents hM]
theorem tpPres_ok (gs:List G) (gl:List (Nat × List G)) (r:G) (h:tpPres gs gl = some r):Fn' Tryz.prog gl 177 gs r ∧ Flat r ∧ callable Tryz.prog 177 = true:=by
 unfold tpPres at h
 cases hl:Nat.beq gs.length 1 with
 | false => rw [hl] at h; cases h
 | true =>
 rw [hl] at h
 simp only [cond_true] at h
 split at h
 ·rename_i s hsp
  split at h
  ·rename_i vals hv
   have hfl:∃ v,r = .lit v:=by
    have h:=h
    unfold presS at h
    revert h
    generalize (mlDyn Tryz.prog EM runM s vals pOps && gEqX 16 (fget (vals ++ s.fr) 3) (.lit (.int .i64 0)) && gEqX 16 (fget (vals ++ s.fr) 64) (.ref (s.c + 1) 0) && (pOps.filterMap (entOf (sAll s vals))).all entOk && Nat.beq s.n 75) = b
    intro h
    cases b with
    | true => cases h; exact ⟨_,rfl⟩
    | false => cases h
   obtain ⟨v,rfl⟩:=hfl
   refine ⟨fn_enter Tryz.func177 bodyP ?_ ?_,flat_lit _,by kernel_rfl⟩
   ·rw [Nat.eq_of_beq_eq_true hl]
    simp [Tryz.ntmps177]
   ·exact spine_tr runM_ok hsp (fun _ => pres_walk s vals _ h) (fun e => by cases e)
  ·cases h
 ·cases h
end
section
open Go.RowKit
noncomputable def bdR:Code:=(Tryz.f178.body).getD .skip
def nthR:Nat → Code → Code
 | 0,c => c
 | n + 1,c => nthR n (seqR c)
noncomputable def rP (n:Nat):Code:=seqL (nthR n bdR)
noncomputable def rM:Code:=seqL (rP 6)
noncomputable def rL:Code:=seqR (rP 6)
noncomputable def rR:Code:=nthR 7 bdR
noncomputable def rOps:List Oper:=regOps rM
theorem bodyR:Tryz.f178.body = some (seqs [rP 0,rP 1,rP 2,rP 3,rP 4,rP 5] (.seq (.seq rM rL) rR)):=by kernel_rfl
theorem rM_eq:rM = .region 10 rOps.toArray true:=by kernel_rfl
theorem rStat:mlStat Tryz.prog 136 169 3 4 rOps 43 = true:=by kernel_rfl
def bad (h:Nat) (q:Value × G):Bool:=!(Nat.beq (Nat.land h (mKey q.1)) 0) && !mHas q.2
def litB:G → Option Bool
 | .lit (.bool b) => some b
 | _ => none
theorem litB_spec {g:G} {b:Bool} (h:litB g = some b):g = .lit (.bool b):=by
 unfold litB at h
 split at h
 ·cases h; rfl
 ·cases h
def litH:G → Option Nat
 | .lit (.int .i64 (.ofNat h)) => bif Nat.blt h 1048576 then some h else none
 | _ => none
theorem litH_spec {g:G} {h:Nat} (e:litH g = some h):g = .lit (.int .i64 (.ofNat h)) ∧ h < 1048576:=by
 unfold litH at e
 split at e
 ·rename_i h'
  cases hb:Nat.blt h' 1048576 with
  | false => rw [hb] at e; cases e
  | true =>
   rw [hb] at e
   cases e
   exact ⟨rfl,Nat.le_of_ble_eq_true hb⟩
 ·cases e
/-- What is left behind the walk. -/
noncomputable def ranE (s:St):St:={ s with fr:=kcut 9 s.fr,c:=s.c + 2 }
noncomputable def ranS (s:St) (vals:Fr):Option G:=match litH (fget s.fr 1) with
 | some h => bif mlDyn Tryz.prog EM runM s vals rOps && gEqX 16 (fget (vals ++ s.fr) 91) (.ref (s.c + 1) 0) && (rOps.filterMap (entOf (sAll s vals))).all entOk && Nat.beq s.n 136 && (sget s.σ s.c).isNone && (sget s.σ (s.c + 1)).isNone then
   (bif (rOps.filterMap (entOf (sAll s vals))).any (bad h) then some (.lit (.bool false)) else (match runM rR (ranE s) noLow with
   | some [(.ret,s2,_)] => (litB (fget s2.fr 4)).map fun b => .lit (.bool b)
   | _ => none)) else none
 | none => none
noncomputable def tpRange (gs:List G) (gl:List (Nat × List G)):Option G:=bif Nat.beq gs.length 2 then (match spine runM [rP 0,rP 1,rP 2,rP 3,rP 4,rP 5] (St.enter Tryz.f178 gl gs) with
 | some (.normal,s) => (match mlFr Tryz.prog EM runM s.c rOps s [] with
  | some vals => ranS s vals
  | none => none)
 | some (.ret,s) => (litB (fget s.fr 4)).map fun b => .lit (.bool b)
 | _ => none) else none
theorem run_gT {P:Program} {ops:Array Oper} {K:St → Prop} {o:Oper} {rest:List Oper} {st st1:St} (hw:gwant st ops o = some true) (hs:GS P o st st1) (h:Run P ops K rest st1):Run P ops K (o :: rest) st:=.inl ⟨hw,_,hs,h⟩
theorem run_gF {P:Program} {ops:Array Oper} {K:St → Prop} {o:Oper} {rest:List Oper} {st:St} (hw:gwant st ops o = some false) (hd:∀ d,o.dst = some d → d < st.n) (h:Run P ops K rest (st.put o.dst (.lit undef))):Run P ops K (o :: rest) st:=.inr ⟨hw,hd,h⟩
attribute [local irreducible] Tr Run RunD GS TG Le Wk Frz Fn' ImmG Flat WkFr WkSt
def dstHi (o:Oper):Bool:=match o.dst with
 | some d => Nat.ble 9 d
 | none => true
theorem rDst:rOps.all dstHi = true:=by kernel_rfl
theorem ranS_lit {s:St} {vals:Fr} {r:G} (h:ranS s vals = some r):∃ b,r = .lit (.bool b):=by
 unfold ranS at h
 split at h
 ·revert h
  generalize (mlDyn Tryz.prog EM runM s vals rOps && gEqX 16 (fget (vals ++ s.fr) 91) (.ref (s.c + 1) 0) && (rOps.filterMap (entOf (sAll s vals))).all entOk && Nat.beq s.n 136 && (sget s.σ s.c).isNone && (sget s.σ (s.c + 1)).isNone) = b
  intro h
  cases b with
  | false => cases h
  | true =>
   simp only [cond_true] at h
   revert h
   generalize (rOps.filterMap (entOf (sAll s vals))).any (bad _) = b
   intro h
   cases b with
   | true => cases h; exact ⟨_,rfl⟩
   | false =>
    simp only [cond_false] at h
    split at h
    ·simp only [Option.map_eq_some_iff] at h
     obtain ⟨b,_,rfl⟩:=h
     exact ⟨_,rfl⟩
    ·cases h
 ·cases h
theorem ran_end (n0:Nat) (gl:List (Nat × List G)) (fr:Fr) (σ:Sto) (c p:Nat) (rr:Bool) (r:G) (h:(match runM rR (ranE ⟨n0,gl,fr,σ,c,p,rr⟩) noLow with
   | some [(.ret,s2,_)] => (litB (fget s2.fr 4)).map fun b => G.lit (.bool b)
   | _ => none) = some r):Tr Tryz.prog rR (ranE ⟨n0,gl,fr,σ,c,p,rr⟩) (Ended Tryz.prog Tryz.f178 r):=by
 split at h
 ·rename_i s2 lo hr
  simp only [Option.map_eq_some_iff] at h
  obtain ⟨b,hb,rfl⟩:=h
  refine (runM_ok.tr _ _ _ _ hr).mono fun e s3 hp => ?_
  obtain ⟨rfl,he⟩:=post_one hp
  refine ended_r (t:=4) rfl ?_
  rw [← he.fr,litB_spec hb]
  exact frz_imm (imm_lit _)
 ·cases h
theorem and_wrap {a m:Nat} (ha:a < 1048576) (hm:m < 1048576):IntKind.i64.wrap ((a % 2 ^ IntKind.i64.bits &&& m % 2 ^ IntKind.i64.bits:Nat):Int) = ((a &&& m:Nat):Int):=by
 have e1:a % 2 ^ IntKind.i64.bits = a:=Nat.mod_eq_of_lt (by show a < 2 ^ 64; omega)
 have e2:m % 2 ^ IntKind.i64.bits = m:=Nat.mod_eq_of_lt (by show m < 2 ^ 64; omega)
 have h2:a &&& m ≤ a:=Nat.and_le_left
 rw [e1,e2,w64 (by omega)]
set_option maxHeartbeats 2000000 in
theorem ran_walk (s:St) (vals:Fr) (r:G) (h:ranS s vals = some r):Tr Tryz.prog (.seq (.seq rM rL) rR) s (Ended Tryz.prog Tryz.f178 r):=by
 obtain ⟨n0,gl,fr,σ,c,p,rr⟩:=s
 unfold ranS at h
 split at h
 rotate_left
 ·cases h
 rename_i hh hlit
 obtain ⟨hl1,hh1⟩:=litH_spec hlit
 cases hc:(mlDyn Tryz.prog EM runM ⟨n0,gl,fr,σ,c,p,rr⟩ vals rOps && gEqX 16 (fget (vals ++ fr) 91) (.ref (c + 1) 0) && (rOps.filterMap (entOf (sAll ⟨n0,gl,fr,σ,c,p,rr⟩ vals))).all entOk && Nat.beq n0 136 && (sget σ c).isNone && (sget σ (c + 1)).isNone) with
 | false => rw [hc] at h; cases h
 | true =>
 rw [hc] at h
 simp only [cond_true] at h
 simp only [Bool.and_eq_true,List.all_eq_true] at hc
 obtain ⟨⟨⟨⟨⟨h1,h3⟩,h4⟩,h5⟩,h6⟩,h7⟩:=hc
 have h3:=gEqX_spec 16 _ _ h3
 obtain rfl:=Nat.eq_of_beq_eq_true h5
 generalize hE:rOps.filterMap (entOf (sAll ⟨136,gl,fr,σ,c,p,rr⟩ vals)) = ents at h h4
 have hv:∀ q ∈ vals,∃ o ∈ rOps,dstTo o q.1 = true:=by
  have h1:=h1
  unfold mlDyn at h1
  simp only [Bool.and_eq_true,List.all_eq_true,List.any_eq_true] at h1
  exact h1.1
 have hlow:∀ i,i < 9 → fget (vals ++ fr) i = fget fr i:=fun i hi => vals_out (st:=⟨136,gl,fr,σ,c,p,rr⟩) hv fun j hj => by
  have hj:(rOps[j]?).bind (·.dst) = some i:=hj
  rw [Option.bind_eq_some_iff] at hj
  obtain ⟨o',ho',hd'⟩:=hj
  have:=List.all_eq_true.1 rDst o' (List.mem_of_getElem? ho')
  unfold dstHi at this
  rw [hd'] at this
  have:=Nat.le_of_ble_eq_true this
  omega
 have hfresh:∀ i o,sget σ i = some o → i ≠ c ∧ i ≠ c + 1:=fun i o ho => ⟨(fun e => by rw [e] at ho; rw [ho] at h6; cases h6),(fun e => by rw [e] at ho; rw [ho] at h7; cases h7)⟩
 have hk1:fget (kcut 9 fr) 1 = .lit (.int .i64 (.ofNat hh)):=by rw [fget_kcut,if_pos (by decide)]; exact hl1
 refine tr_seq (tr_seq ?_)
 rw [rM_eq]
 refine tr_maplit (E:=EM) (run:=runM) (st:=⟨136,gl,fr,σ,c,p,rr⟩) mixed runM_ok tpA_ok rStat h1 fun es clock hM => ?_
 rw [hE] at hM
 refine thn_n ?_
 unfold rL rP bdR Tryz.f178
 simp only [seqL,seqR,nthR,Option.getD_some]
 refine tr_mapwalk (it:=91) (a:=92) (b:=93) (iti:=c + 1) (mi:=c) (clock:=clock) (since:=clock) (T:=169) (ty:=169) (es:=es)
  (S:=fun seen => ⟨136,gl,(91,.ref (c + 1) 0) :: kcut 9 fr,(c + 1,some ⟨169,[],some (.iter (some c) clock seen clock)⟩) :: (c,some ⟨169,[],some (.map es clock)⟩) :: σ,c + 2,p,rr⟩) (fun seen => ∀ e ∈ es,e.2.2 ∈ seen → bad hh (e.1,e.2.1) = false) (fun e _ h => by cases h) hM.lt rfl ?_ (fun seen => ?_) (fun seen => ?_) (fun seen => ⟨show 92 < 136 by decide,show 93 < 136 by decide⟩) (fun seen k g n hI hm hn => ?_) (fun seen hI hs => ?_)
 ·refine le_cut (st:=⟨136,gl,vals ++ fr,_,c + 2,p,rr⟩) (fun i => ?_) (fun i o h => h)
  rw [fget_cons]
  split
  ·rename_i e; subst e; exact .inl h3.symm
  ·rw [fget_kcut]
   split
   ·rename_i hi; exact .inl (hlow i hi).symm
   ·exact .inr rfl
 ·simp [giter,gev,fget_cons,sget_cons]
 ·simp [gmap,sget_cons]
 ·obtain ⟨m,b,e1,e2,e3⟩:=entOk_spec (h4 _ (hM.sub _ hm))
  have e1:k = _:=e1
  have e3:g = _:=e3
  subst e1 e3
  clear e1 e3
  have hge:gentry ((c + 1,some ⟨169,[],some (.iter (some c) clock (seen ++ [n]) clock)⟩) :: (c + 1,some ⟨169,[],some (.iter (some c) clock seen clock)⟩) :: (c,some ⟨169,[],some (.map es clock)⟩) :: σ) (.ref (c + 1) 0) = some (.tup [glit (.int .i64 (.ofNat m)),.lit (.bool b)]) :=
   gentry_at (iti:=c + 1) (mi:=c) (since:=clock) (clock:=clock) (T:=169) (ty:=169) (seen:=seen) (by simp [giter,sget_cons]) (by simp [gmap,sget_cons]) hM.nd hm
  dsimp only
  refine tr_block (tr_seq (tr_region (run_e rfl (gs_entry (g:=.tup [glit (.int .i64 (.ofNat m)),.lit (.bool b)]) rfl (fun d e => by cases e; show 94 < 136; decide) ?_) ?_)))
  ·exact hge
  simp only [St.put,glit_int]
  repeat' (first | apply tr_seq | apply tr_region | apply run_nil | apply thn_n | apply thn_e | apply thn_r | apply blk_e | apply blk_n | apply blk_r | (refine blk_ne ?_ ?_; decide) | apply tr_block | apply tr_skip | apply tr_label | apply tr_exit | apply tr_ret | (refine tr_region_draw (bars:=[]) mixed (by kernel_rfl) ?_) | apply rund_nil | ((first | apply run_v | apply rund_v); simp (disch:=omega) [if_pos,hk1]; (first | rfl | exact ⟨rfl,rfl⟩); decide) | ((first | apply run_bs | apply run_app | apply run_build | apply run_box | apply run_alloc | apply rund_build); simp (disch:=omega) [if_pos,hk1]; (first | rfl | exact ⟨rfl,rfl⟩ | exact ⟨rfl,rfl,rfl,rfl⟩); decide) | (apply run_sto; simp (disch:=omega) [if_pos,hk1]; rfl))
  simp only [and_wrap hh1 e2]
  have hbad:bad hh (Value.int .i64 (.ofNat m),G.lit (.bool b)) = (!decide (((hh &&& m:Nat):Int) = 0) && !b):=by
   unfold bad
   have:Nat.beq (Nat.land hh (mKey (.int .i64 (.ofNat m)))) 0 = decide (((hh &&& m:Nat):Int) = 0):=by
    show Nat.beq (hh &&& m) 0 = _
    rw [Bool.eq_iff_iff,decide_eq_true_iff]
    constructor
    ·intro h; rw [Nat.eq_of_beq_eq_true h]; rfl
    ·intro h
     have h0:hh &&& m = 0:=by omega
     rw [h0]; rfl
   rw [this]
   cases b <;> rfl
  generalize hz:(!decide (((hh &&& m:Nat):Int) = 0)) = z at hbad ⊢
  have next:bad hh (Value.int .i64 (.ofNat m),G.lit (.bool b)) = false → ∀ e ∈ es,e.2.2 ∈ seen ++ [n] → bad hh (e.1,e.2.1) = false:=by
   intro hb e he hs
   rcases List.mem_append.1 hs with hs | hs
   ·exact hI e he hs
   ·have hs:=List.mem_singleton.1 hs
    have h1:=find_born hM.nd hm
    have h2:=find_born (k:=e.1) (g:=e.2.1) (n:=n) hM.nd (by rw [← hs]; exact he)
    rw [h1] at h2
    simp only [Option.some.injEq,Prod.mk.injEq] at h2
    rw [← h2.1,← h2.2.1]
    exact hb
  have same:∀ {fr':Fr} {σ':Sto},(∀ i,i < 9 → fget fr' i = fget (kcut 9 fr) i) → fget fr' 91 = .ref (c + 1) 0 → σ' = (c + 1,some ⟨169,[],some (.iter (some c) clock (seen ++ [n]) clock)⟩) :: (c + 1,some ⟨169,[],some (.iter (some c) clock seen clock)⟩) :: (c,some ⟨169,[],some (.map es clock)⟩) :: σ → Le Tryz.prog ⟨136,gl,fr',σ',c + 2,p,rr⟩ ⟨136,gl,(91,.ref (c + 1) 0) :: kcut 9 fr,(c + 1,some ⟨169,[],some (.iter (some c) clock (seen ++ [n]) clock)⟩) :: (c,some ⟨169,[],some (.map es clock)⟩) :: σ,c + 2,p,rr⟩:=by
   rintro fr' σ' f1 f2 rfl
   refine le_cut (st:=⟨136,gl,fr',_,c + 2,p,rr⟩) (fun i => ?_) (fun i o ho => ?_)
   ·rw [fget_cons]
    split
    ·rename_i e; subst e; exact .inl f2.symm
    ·rcases Nat.lt_or_ge i 9 with hi | hi
     ·exact .inl (f1 i hi).symm
     ·rw [fget_kcut,if_neg (by omega)]; exact .inr rfl
   ·rw [sget_cons] at ho
    rw [sget_cons,sget_cons]
    split at ho
    ·rename_i e; rw [if_pos e]; exact ho
    ·rename_i e
     rw [if_neg e,if_neg e]
     exact ho
  cases z with
  | true =>
   refine run_gT rfl (gs_val (g:=.lit (.bool b)) (fun d e => by cases e; show 102 < 136; decide) rfl) ?_
   simp only [St.put]
   refine run_gT rfl (gs_val (g:=.lit (.bool !b)) (fun d e => by cases e; show 103 < 136; decide) (by simp)) ?_
   simp only [St.put]
   refine wM ?_
   cases b with
   | true =>
    refine tr_condF (by simp) ?_
    refine wM ?_
    refine ⟨next (by rw [hbad]; rfl),same (fun i hi => ?_) ?_ rfl⟩
    ·simp only [fget_cons]
     repeat rw [if_neg (by omega)]
    ·simp [fget_cons]
   | false =>
    refine tr_condT (by simp) ?_
    refine wM ?_
    have:ents.any (bad hh) = true:=List.any_eq_true.2 ⟨_,hM.sub _ hm,by rw [hbad]; rfl⟩
    rw [this] at h
    cases h
    refine ended_r (t:=4) rfl (frz_bool ?_)
    rfl
  | false =>
   refine run_gF rfl (fun d e => by cases e; show 102 < 136; decide) ?_
   simp only [St.put]
   refine run_gF rfl (fun d e => by cases e; show 103 < 136; decide) ?_
   simp only [St.put]
   refine wM ?_
   refine tr_condF (by simp) ?_
   refine wM ?_
   refine ⟨next (by rw [hbad]; rfl),same (fun i hi => ?_) ?_ rfl⟩
   ·simp only [fget_cons]
    repeat rw [if_neg (by omega)]
   ·simp [fget_cons]
 ·have hno:ents.any (bad hh) = false:=by
   cases ha:ents.any (bad hh) with
   | false => rfl
   | true =>
    obtain ⟨q,hq,hb⟩:=List.any_eq_true.1 ha
    obtain ⟨n,hn⟩:=hM.sup q hq
    rw [hI _ hn (hs _ hn)] at hb
    cases hb
  rw [hno] at h
  simp only [cond_false] at h
  refine thn_n ((ran_end 136 gl fr σ c p rr r h).le ?_)
  refine le_cut (st:=⟨136,gl,_,_,c + 2,p,rr⟩) (fun i => ?_) (fun i o ho => ?_)
  ·rw [fget_kcut]
   split
   ·rename_i hi
    left
    rw [fget_cons,if_neg (by omega),fget_cons,if_neg (by omega),fget_cons,if_neg (by omega),fget_kcut,if_pos hi]
   ·exact .inr rfl
  ·obtain ⟨f1,f2⟩:=hfresh i o ho
   rw [sget_cons,if_neg (fun e => f2 e.symm),sget_cons,if_neg (fun e => f1 e.symm)]
   exact ho
theorem tpRange_ok (gs:List G) (gl:List (Nat × List G)) (r:G) (h:tpRange gs gl = some r):Fn' Tryz.prog gl 178 gs r ∧ Flat r ∧ callable Tryz.prog 178 = true:=by
 unfold tpRange at h
 cases hl:Nat.beq gs.length 2 with
 | false => rw [hl] at h; cases h
 | true =>
 rw [hl] at h
 simp only [cond_true] at h
 have hlen:gs.length ≤ Tryz.f178.ntmps:=by
  rw [Nat.eq_of_beq_eq_true hl]
  simp [Tryz.ntmps178]
 split at h
 ·rename_i s hsp
  split at h
  ·rename_i vals hv
   obtain ⟨b,rfl⟩:=ranS_lit h
   exact ⟨fn_enter Tryz.func178 bodyR hlen (spine_tr runM_ok hsp (fun _ => ran_walk s vals _ h) (fun e => by cases e)),flat_lit _,by kernel_rfl⟩
  ·cases h
 ·rename_i s hsp
  simp only [Option.map_eq_some_iff] at h
  obtain ⟨b,hb,rfl⟩:=h
  refine ⟨fn_enter Tryz.func178 bodyR hlen (spine_tr runM_ok hsp (fun e => by cases e) (fun _ s2 he => ?_)),flat_lit _,by kernel_rfl⟩
  refine ended_r (t:=4) rfl ?_
  rw [← he.fr,litB_spec hb]
  exact frz_imm (imm_lit _)
 ·cases h
/-- What is known of both, over a table. -/
noncomputable def tpM (tp:XPure):XPure:=fun fid gs gl => bif Nat.beq fid 177 then tpPres gs gl else bif Nat.beq fid 178 then tpRange gs gl else tp fid gs gl
theorem tpM_ok {tp:XPure} (h:PureOk Tryz.prog tp):PureOk Tryz.prog (tpM tp):=by
 intro fid gs gl r e
 unfold tpM at e
 cases h1:Nat.beq fid 177 with
 | true =>
  rw [h1] at e
  obtain rfl:=Nat.eq_of_beq_eq_true h1
  exact tpPres_ok gs gl r e
 | false =>
  rw [h1] at e
  simp only [cond_false] at e
  cases h2:Nat.beq fid 178 with
  | true =>
   rw [h2] at e
   obtain rfl:=Nat.eq_of_beq_eq_true h2
   exact tpRange_ok gs gl r e
  | false =>
   rw [h2] at e
   exact h fid gs gl r e
end
end Go.Proofs.YtpehhhbmobmedaaGreatDoor
