/- Steps of a region that draws, by hand, where rows are written in it. -/
import Derived.Test.YtpehhhbmobmedaaGreatDoorEC
namespace Go.Proofs.YtpehhhbmobmedaaGreatDoor
set_option linter.unusedVariables false
set_option linter.unusedSimpArgs false
set_option linter.unusedSectionVars false
open Go.RowKit
section
variable {P:Program} {ops:Array Oper} {K:St → Prop} {rest:List Oper} {inf:List DI} {st:St}
abbrev dR:DI:=.rd [] fun _ => false
theorem memOps {parts:Array (Nat × Operand)} {q:Nat × Operand} (h:q ∈ parts.toList):q.2 ∈ (parts.toList.map (·.2)).toArray:=List.mem_toArray.2 (List.mem_map.2 ⟨q,h,rfl⟩)
theorem rf_nil (h:K st):RunF P ops K [] [] st:=h
theorem rf_v {o:Oper} {d:Tmp} {g:G} (hg:o.guard = none) (ho:o.dst = some d) (hd:d < st.n) (he:evVal P (gev st) st.σ o = some g) (hl:∀ t x,o.op = .load t x → rdOf (gev st x) = []) (h:RunF P ops K rest inf (st.put (some d) g)):RunF P ops K (o :: rest) (dR :: inf) st:=by
 refine ⟨g,st.put o.dst g,⟨fun _ => ⟨_,rfl⟩,.inl ⟨by simp [gwant,hg],.inr ⟨[],_,rfl,rfl,fun V hV st'' e1 e2 e3 e4 => ?_⟩⟩⟩,by rw [ho]; exact h⟩
 refine gs_val (fun x e => by rw [ho] at e; cases e; rw [e1]; exact hd) ?_
 rw [evVal_congr (ρ:=gev st'') (ρ':=gev st) e4,evVal_storeL (ρ:=gev st) (σ:=st.σ) (σ':=st''.σ) (fun t x hx i hi => by rw [hl t x hx] at hi; cases hi)]
 exact he
theorem rf_b {o:Oper} {d:Tmp} {g:G} {t:TypeId} {parts:Array (Nat × Operand)} (hg:o.guard = none) (hop:o.op = .build t parts) (ho:o.dst = some d) (hd:d < st.n) (he:gbuild P t (parts.toList.map fun q => (q.1,gev st q.2)) = some g) (h:RunF P ops K rest inf (st.put (some d) g)):RunF P ops K (o :: rest) (dR :: inf) st:=by
 refine ⟨g,st.put o.dst g,⟨fun _ => ⟨_,rfl⟩,.inl ⟨by simp [gwant,hg],.inr ⟨[],_,rfl,rfl,fun V hV st'' e1 e2 e3 e4 => ?_⟩⟩⟩,by rw [ho]; exact h⟩
 refine gs_build hop (fun x e => by rw [ho] at e; cases e; rw [e1]; exact hd) ?_
 rw [← he]
 congr 1
 refine List.map_congr_left fun q hq => ?_
 rw [e4 q.2 (by rw [hop]; simp only [Op.operands]; exact memOps hq)]
theorem noRun:RunOk P (fun _ _ _ => none):=⟨fun _ _ _ _ h => (by cases h),fun _ _ _ _ h => (by cases h)⟩
theorem rf_w {o:Oper} {d:Tmp} {g:G} {U O:Sto} {R:List Nat} (k:Nat) (hO:O = U.map fun q => (q.1,sget st.σ q.1)) (hg:o.guard = none) (ho:o.dst = some d) (hd:d < st.n) (hf:isFree o = false) (he:xeffF P (fun _ _ _ => none) o st k = some (g,U,R,false,st.c)) (h:RunF P ops K rest inf ({ st with σ:=U ++ st.σ }.put (some d) g)) :
  RunF P ops K (o :: rest) (.wr R U O false :: inf) st:=by
 subst hO
 have hb:=(xeffF_bg noRun (fun x e => by rw [ho] at e; cases e; exact hd) he).1
 refine ⟨g,{ st with σ:=U ++ st.σ,c:=st.c }.put o.dst g,⟨fun hf' => (by rw [hf] at hf'; cases hf'),.inl ⟨by simp [gwant,hg],.inl ⟨R,U,_,false,st.c,rfl,rfl,fun _ => rfl,fun x hx => ?_,by simp,fun st'' e1 e2 e3 e4 e5 e6 => ?_⟩⟩⟩,by rw [ho]; exact h⟩
 ·have hx:x ∈ U.map (·.1):=hx
  have key:∀ (U:Sto),x ∈ U.map (·.1) → sget (U.map fun q => (q.1,sget st.σ q.1)) x = sget st.σ x:=by
   intro U
   induction U with
   | nil => intro h; cases h
   | cons q r ih =>
    intro h
    rw [List.map_cons,sget_cons]
    split
    ·rename_i e; rw [e]
    ·rename_i e
     simp only [List.map_cons,List.mem_cons] at h
     exact ih (h.resolve_left fun e' => e e'.symm)
  exact key U hx
 ·exact hb st'' e1 e2 e3 e4 e5 e6
theorem xeff_bs {run:XRun} {o:Oper} {k m:Nat} {t e:TypeId} {parts:Array (Nat × Operand)} {l:List G} (hop:o.op = .buildSlice t m parts) (hr:isResv (sget st.σ k) = true) (hp:Nat.ble st.p k = true) (hg:gbs P t m (parts.toList.map fun q => (q.1,gev st q.2)) = some (e,l)) :
  xeffF P run o st k = some (.rsl k 0 m,[(k,some ⟨e,l,none⟩)],[k],false,st.c):=by
 obtain ⟨dst,op,ty,pos,af,gd⟩:=o
 obtain rfl:op = _:=hop
 unfold xeffF
 simp only [hr,hp,hg,Bool.and_self,cond_true,Option.map_some]
theorem xeff_app {run:XRun} {o:Oper} {k i n m:Nat} {t e:TypeId} {x y:Operand} {l:List G} (hop:o.op = .call { callee:=.builtin .append,args:=#[x,y],argTypes:=#[t,t] }) (hr:isResv (sget st.σ k) = true) (hp:Nat.ble st.p k = true) (hx:gev st x = .rsl i 0 n) (hg:gapp P st.σ st.c t (gev st x) (gev st y) = some (e,i,m,l)) :
  xeffF P run o st k = some (.rsl k 0 m,[(k,some ⟨e,l,none⟩),(i,none)],k :: i :: rdOf (gev st y),false,st.c):=by
 obtain ⟨dst,op,ty,pos,af,gd⟩:=o
 obtain rfl:op = _:=hop
 unfold xeffF
 simp only [hr,hp,Bool.and_self,cond_true,hx,if_true]
 rw [hx] at hg
 rw [hg]
 rfl
end
end Go.Proofs.YtpehhhbmobmedaaGreatDoor
