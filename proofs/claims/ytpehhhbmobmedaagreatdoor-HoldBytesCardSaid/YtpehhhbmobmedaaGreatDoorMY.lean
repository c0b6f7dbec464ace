/- Regions that draw, with calls that hand new rows, by hand; rows that grow. -/
import Derived.Test.YtpehhhbmobmedaaGreatDoorHc
import Derived.Test.YtpehhhbmobmedaaGreatDoorLF
namespace Go.Proofs.YtpehhhbmobmedaaGreatDoor
set_option linter.unusedVariables false
set_option linter.unusedSimpArgs false
set_option linter.unusedSectionVars false
section
open Go.RowKit
section
variable {P:Program} {ops:Array Oper} {K:St → Prop} {rest:List Oper} {inf:List DI} {st:St}
theorem runf_det:∀ (l:List Oper) (inf:List DI) (st:St),RunF P ops K l inf st → ∃ s,K s ∧ RunF P ops (fun s' => s' = s) l inf st
 | [],[],st,h => ⟨st,h,rfl⟩
 | o :: rest,q :: inf,st,⟨g,st1,hs,hr⟩ => by
  obtain ⟨s,hk,hr⟩:=runf_det rest inf st1 hr
  exact ⟨s,hk,g,st1,hs,hr⟩
 | o :: rest,[],st,h => h.elim
 | [],q :: inf,st,h => h.elim
theorem ex_region_draw4 {id:Nat} {l:List Oper} {inf:List DI} {st:St} {G:Exit → St → Prop} (hm:P.follows .mixedOrders = true) (hok:drawOk4 l inf st.n = true) (h:RunF P l.toArray (G .normal) l inf st):Ex P (.region id l.toArray true) st G:=by
 obtain ⟨s,hk,hr⟩:=runf_det l inf st h
 refine ⟨.normal,s,hk,tr_region_draw4 hm hok ?_⟩
 have e:(fun s':St => s' = s) = (fun s' => Exit.normal = Exit.normal ∧ s' = s):=by funext s'; simp
 rw [e] at hr
 exact hr
theorem rf_ld {d:Tmp} {t ty:TypeId} {x:Operand} {pos:String} {af:Array Edge} {i k:Nat} {g:G} (hd:d < st.n) (hx:gev st x = .ref i k) (he:gload P st.σ t (.ref i k) = some g) (h:RunF P ops K rest inf (st.put (some d) g)) :
  RunF P ops K (⟨some d,.load t x,ty,pos,af,none⟩ :: rest) (.rd [i] (fun _ => false) :: inf) st:=by
 refine ⟨g,st.put (some d) g,⟨fun hf => (by cases hf),.inl ⟨rfl,.inr ⟨[i],_,rfl,rfl,fun V hV st'' e1 e2 e3 e4 => ?_⟩⟩⟩,h⟩
 have hV:V = []:=by
  rcases hV with hV | hV
  ·exact hV
  ·cases hV
 subst hV
 refine gs_val (fun y e => by cases e; rw [e1]; exact hd) ?_
 have e5:gev st'' x = gev st x:=e4 x (by simp [Op.operands])
 show gload P st''.σ t (gev st'' x) = some g
 rw [e5,hx,← he]
 have e6:sget st''.σ i = sget st.σ i:=e3 i (by simp)
 simp only [gload,e6]
theorem rf_cr {d:Tmp} {ty:TypeId} {xs:Array Operand} {ats:Array TypeId} {pos:String} {af:Array Edge} {fid:FuncId} {gs:List G} {t:TypeId} {m k:Nat} {l:List G} {O:Sto} (hk:st.c = k) (hO:O = [(k,sget st.σ k)]) (hF:FnR P st.gl fid gs t m l) (hc:callable P fid = true) (hd:d < st.n) (hg:xs.toList.map (gev st) = gs) (hi:∀ g ∈ gs,ImmG g) (hlit:∀ g ∈ l,∃ v,g = .lit v)
  (h:RunF P ops K rest inf ({ st with σ:=(k,some ⟨t,l,none⟩) :: st.σ,c:=k + 1 }.put (some d) (.rsl k 0 m))) :
  RunF P ops K (⟨some d,.call { callee:=.value (.func fid),args:=xs,argTypes:=ats },ty,pos,af,none⟩ :: rest) (.wr [] [(k,some ⟨t,l,none⟩)] O true :: inf) st:=by
 subst hg; subst hk; subst hO
 refine ⟨.rsl st.c 0 m,_,⟨fun hf => (by cases hf),.inl ⟨rfl,.inl ⟨[],_,_,true,st.c + 1,rfl,rfl,fun h => (by cases h),fun x hx => ?_,rfl,fun st'' e1 e2 e3 e4 e5 e6 => ?_⟩⟩⟩,h⟩
 ·simp only [List.map_cons,List.map_nil,List.mem_singleton] at hx
  subst hx
  exact sget_eq rfl
 ·have hcs:st''.c = st.c:=e4 rfl
  have hargs:xs.toList.map (gev st'') = xs.toList.map (gev st):=List.map_congr_left fun x hx => e6 x (by simp only [Op.operands,Call.operands]; exact Array.mem_append.2 (.inr (Array.mem_toList_iff.1 hx)))
  have:=gs_lendR (o:=⟨some d,.call { callee:=.value (.func fid),args:=xs,argTypes:=ats },ty,pos,af,none⟩) (st:=st'') (fst:=[]) (cap:=[]) (gs:=xs.toList.map (gev st)) (t:=t) (m:=m) (l:=l) rfl (fun y e => by cases e; rw [e1]; exact hd) rfl hc (by simp) (fun i g g' h1 h2 => by
   simp only [List.nil_append,List.append_nil,hargs] at h1
   rw [h1] at h2
   cases h2
   exact frz_imm (hi _ (List.mem_of_getElem? h1))) (by rw [e2]; exact hF) hlit
  rw [hcs] at this
  exact this
theorem rf_m {d:Tmp} {ty:TypeId} {f:Operand} {xs:Array Operand} {ats:Array TypeId} {pos:String} {af:Array Edge} {fid:FuncId} {gs:List G} {r:G} {σR σ' U O:Sto} {R:List Nat} {c c':Nat} (hc:st.c = c) (hO:O = U.map fun q => (q.1,sget st.σ q.1)) (hM:McK P st.gl fid gs σR c r σ' c') (fst cap:List G) (hf:gev st f = .clo (.func fid) fst cap) (hg:fst ++ xs.toList.map (gev st) ++ cap = gs) (hd:d < st.n)
  (hR:∀ i o,sget σR i = some o → i ∈ R ∧ sget st.σ i = some o) (hτ:∀ (σ:Sto),(∀ i o,sget σ i = some o → i < c) → (∀ i o,sget σR i = some o → sget σ i = some o) → ∀ i o,sget (U ++ σ) i = some o → sget σ' i = some o ∨ (sget σ i = some o ∧ sget σR i = none)) (h:RunF P ops K rest inf ({ st with σ:=U ++ st.σ,c:=c' }.put (some d) r)) :
  RunF P ops K (⟨some d,.call { callee:=.value f,args:=xs,argTypes:=ats },ty,pos,af,none⟩ :: rest) (.wr R U O true :: inf) st:=by
 subst hg; subst hc; subst hO
 refine ⟨r,_,⟨fun hf => (by cases hf),.inl ⟨rfl,.inl ⟨R,U,_,true,c',rfl,rfl,fun h => (by cases h),fun x hx => ?_,by simp,fun st'' e1 e2 e3 e4 e5 e6 => ?_⟩⟩⟩,h⟩
 ·have key:∀ (U:Sto),x ∈ U.map (·.1) → sget (U.map fun q => (q.1,sget st.σ q.1)) x = sget st.σ x:=by
   intro U
   induction U with
   | nil => intro h; cases h
   | cons q r ih =>
    intro h
    rw [List.map_cons,sget_cons]
    split
    ·rename_i e; rw [e]
    ·rename_i e
     simp only [List.map_cons,List.mem_cons] at h
     exact ih (h.resolve_left fun e' => e e'.symm)
  exact key U hx
 ·have hcs:st''.c = st.c:=e4 rfl
  have hops:∀ x ∈ f :: xs.toList,gev st'' x = gev st x:=fun x hx => e6 x (by
   simp only [Op.operands,Call.operands]
   rcases List.mem_cons.1 hx with rfl | hx
   ·exact Array.mem_append.2 (.inl (by simp))
   ·exact Array.mem_append.2 (.inr (Array.mem_toList_iff.1 hx)))
  have hargs:xs.toList.map (gev st'') = xs.toList.map (gev st):=List.map_congr_left fun x hx => hops x (List.mem_cons_of_mem _ hx)
  refine gs_mcR (st:=st'') (σR:=σR) (σ':=σ') (c':=c') rfl (fun y e => by cases e; rw [e1]; exact hd) ((hops f List.mem_cons_self).trans hf) (by rw [hargs,e2,hcs]; exact hM) (fun i o hi => ?_) (U ++ st''.σ) (fun hb i o hi => ?_)
  ·obtain ⟨h1,h2⟩:=hR i o hi
   rw [e5 i h1]; exact h2
  ·exact hτ st''.σ (fun i o hi => by have:=hb i o hi; omega) (fun i o hi => by
    obtain ⟨h1,h2⟩:=hR i o hi
    rw [e5 i h1]; exact h2) i o hi
theorem drawOk4_of {l:List Oper} {n:Nat} {pairs:List (Nat × Nat)} (h1:drawStat l n = true) (h2:drawPairs l = pairs) (h3:∀ q ∈ pairs,okS (dinf inf q.1) (dinf inf q.2) = true):drawOk4 l inf n = true:=by
 unfold drawOk4
 rw [h1,h2]
 have:(pairs.filter fun q => !okS (dinf inf q.1) (dinf inf q.2)) = []:=by
  rw [List.filter_eq_nil_iff]
  intro q hq
  rw [h3 q hq]; simp
 rw [this]
 rfl
end
section
variable {P:Program}
def RowIs (e:TypeId) (s:Nat) (σ:Sto) (g:G) (n:Nat) (l:List G):Option Nat → Prop
 | none => g = .lit (.slice none 0 0) ∧ n = 0 ∧ l = []
 | some j => g = .rsl j 0 n ∧ sget σ j = some ⟨e,l,none⟩ ∧ l.length = n * s
theorem row_app {t e:TypeId} {s b:Nat} {zs:List Value} (he:telem P t = some e) (hs:tsize P e = some s) (h0:0 < s) (hz:tzero P e = some zs) (hzl:zs.length = s) (hb:(P.info? e).map (·.bytes) = some b) {σ:Sto} {g:G} {n:Nat} {l:List G} {r:Option Nat} (h:RowIs e s σ g n l r) {gy:G} {news:List G} {m:Nat} (hv:gview σ s gy = some (news,m)) (hbd:n + m ≤ 9223372036854775807 ∧ (n + m) * b ≤ 140737488355328) (c:Nat) :
  ∃ q,gapp P σ c t g gy = some (e,q,n + m,l ++ news) ∧ (q = c ∨ r = some q):=by
 cases r with
 | none =>
  obtain ⟨rfl,rfl,rfl⟩:=h
  refine ⟨c,?_,.inl rfl⟩
  unfold gapp
  rw [he]
  simp only [Option.bind_some,hs,hz,hb,hv,gsrc]
  rw [if_pos ⟨h0,hzl,hbd.1,hbd.2⟩]
 | some j =>
  obtain ⟨rfl,h1,h2⟩:=h
  refine ⟨j,?_,.inr rfl⟩
  unfold gapp
  rw [he]
  simp only [Option.bind_some,hs,hz,hb,hv,gsrc,h1]
  rw [if_pos (by simp [h2])]
  simp only [Option.bind_some]
  rw [if_pos ⟨h0,hzl,hbd.1,hbd.2⟩]
end
end
section
open Go.RowKit
section
variable {α:Type} {f:α → List G} {k:Nat}
theorem rw_len (hk:∀ x,(f x).length = k) (l:List α):(l.flatMap f).length = l.length * k:=by
 induction l with
 | nil => simp
 | cons x r ih => rw [List.flatMap_cons,List.length_append,ih,hk,List.length_cons,Nat.add_mul]; omega
theorem rw_drop (hk:∀ x,(f x).length = k):∀ (l:List α) (i:Nat),(l.flatMap f).drop (i * k) = (l.drop i).flatMap f
 | l,0 => by simp
 | [],i + 1 => by simp
 | x :: r,i + 1 => by
  rw [List.flatMap_cons,Nat.add_mul,Nat.one_mul,List.drop_append,hk,Nat.add_sub_cancel,rw_drop hk r i,List.drop_of_length_le (by rw [hk]; omega)]
  rfl
theorem rw_take (hk:∀ x,(f x).length = k):∀ (l:List α) (i:Nat),(l.flatMap f).take (i * k) = (l.take i).flatMap f
 | l,0 => by simp
 | [],i + 1 => by simp
 | x :: r,i + 1 => by
  rw [List.flatMap_cons,Nat.add_mul,Nat.one_mul,Nat.add_comm,List.take_append,hk,Nat.add_sub_cancel_left,rw_take hk r i,List.take_of_length_le (by rw [hk]; omega)]
  rfl
theorem rw_one (hk:∀ x,(f x).length = k) {l:List α} {i:Nat} {x:α} (h:l[i]? = some x):((l.flatMap f).drop (i * k)).take k = f x:=by
 rw [rw_drop hk]
 have hi:=(List.getElem?_eq_some_iff.1 h).1
 have hx:=(List.getElem?_eq_some_iff.1 h).2
 rw [List.drop_eq_getElem_cons hi,List.flatMap_cons,List.take_append_of_le_length (by rw [hk]; exact Nat.le_refl _),List.take_of_length_le (by rw [hk]; exact Nat.le_refl _),hx]
theorem rw_at (hk:∀ x,(f x).length = k) {l:List α} {i j:Nat} {x:α} (h:l[i]? = some x) (hj:j < k):(l.flatMap f)[i * k + j]? = (f x)[j]?:=by
 rw [← rw_one hk h,List.getElem?_take_of_lt hj,List.getElem?_drop]
theorem rw_sub (hk:∀ x,(f x).length = k) {l:List α} {i j m:Nat} {x:α} (h:l[i]? = some x) (hj:j + m ≤ k):((l.flatMap f).drop (i * k + j)).take m = ((f x).drop j).take m:=by
 rw [← rw_one hk h,List.drop_take,List.take_take,List.drop_drop,Nat.min_eq_left (by omega)]
theorem rw_bound {l:List α} {i:Nat} {x:α} (h:l[i]? = some x):i * k + k ≤ l.length * k:=by
 have hi:=(List.getElem?_eq_some_iff.1 h).1
 have:=Nat.mul_le_mul_right k (Nat.succ_le_of_lt hi)
 rwa [Nat.succ_mul] at this
variable {P:Program}
abbrev RowA (f:α → List G) (k:Nat) (e:TypeId) (σ:Sto) (g:G) (l:List α) (r:Option Nat):Prop:=RowIs e k σ g l.length (l.flatMap f) r
theorem rowA_nil {e:TypeId} {σ:Sto}:RowA f k e σ (.lit (.slice none 0 0)) [] none:=⟨rfl,rfl,rfl⟩
theorem rowA_new (hk:∀ x,(f x).length = k) {e:TypeId} {σ:Sto} {c:Nat} {l:List α} {m:Nat} (h:sget σ c = some ⟨e,l.flatMap f,none⟩) (hm:m = l.length):RowA f k e σ (.rsl c 0 m) l (some c):=⟨by rw [hm],h,rw_len hk l⟩
theorem rowA_more {e:TypeId} {σ σ':Sto} {g:G} {l:List α} {r:Option Nat} (h:RowA f k e σ g l r) (hs:∀ j,r = some j → sget σ' j = sget σ j):RowA f k e σ' g l r:=by
 cases r with
 | none => exact h
 | some j => exact ⟨h.1,(hs j rfl).trans h.2.1,h.2.2⟩
theorem rowA_app (hk:∀ x,(f x).length = k) {t e:TypeId} {b:Nat} {zs:List Value} (he:telem P t = some e) (hs:tsize P e = some k) (h0:0 < k) (hz:tzero P e = some zs) (hzl:zs.length = k) (hb:(P.info? e).map (·.bytes) = some b) {σ:Sto} {g:G} {l m:List α} {r:Option Nat} (h:RowA f k e σ g l r) {gy:G} (hv:gview σ k gy = some (m.flatMap f,m.length)) (hbd:(l.length + m.length) * b ≤ 140737488355328) (hln:l.length + m.length ≤ 1000000000) (c:Nat) :
  ∃ q,gapp P σ c t g gy = some (e,q,(l ++ m).length,(l ++ m).flatMap f) ∧ (q = c ∨ r = some q):=by
 obtain ⟨q,hq,hq2⟩:=row_app he hs h0 hz hzl hb h hv ⟨by omega,hbd⟩ c
 exact ⟨q,by rw [hq,List.length_append,List.flatMap_append],hq2⟩
theorem one_view (hk:∀ x,(f x).length = k) {e:TypeId} {σ:Sto} {q:Nat} {x:α} (h:sget σ q = some ⟨e,f x,none⟩):gview σ k (.rsl q 0 1) = some ([x].flatMap f,[x].length):=by
 simp only [gview,h,Option.bind_some,hk]
 rw [if_pos (by omega),List.drop_zero,List.take_of_length_le (by rw [hk]; omega)]
 simp
theorem rowA_len {e:TypeId} {σ:Sto} {g:G} {l:List α} {r:Option Nat} (h:RowA f k e σ g l r):glen g = some (l.length:Int):=by
 cases r with
 | none => obtain ⟨rfl,h2,h3⟩:=h; rw [h2]; rfl
 | some j => obtain ⟨rfl,h1,h2⟩:=h; rfl
theorem rowA_ix (hk:∀ x,(f x).length = k) {t e:TypeId} (he:telem P t = some e) (hs:tsize P e = some k) {σ:Sto} {g:G} {l:List α} {r:Option Nat} (h:RowA f k e σ g l r) {i:Nat} {x:α} (hx:l[i]? = some x):∃ q,r = some q ∧ gindex P t g (i:Int) = some (.ref q (i * k)) ∧ sget σ q = some ⟨e,l.flatMap f,none⟩:=by
 have hi:=(List.getElem?_eq_some_iff.1 hx).1
 cases r with
 | none => obtain ⟨_,h2,_⟩:=h; omega
 | some q =>
  obtain ⟨rfl,h1,h2⟩:=h
  refine ⟨q,rfl,?_,h1⟩
  simp only [gindex,he,hs,Option.bind_some]
  rw [if_pos (by omega)]
  simp
theorem rowA_ld (hk:∀ x,(f x).length = k) {e:TypeId} (ha:tagg P e = some true) (hs:tsize P e = some k) {σ:Sto} {l:List α} {q:Nat} (h:sget σ q = some ⟨e,l.flatMap f,none⟩) {i:Nat} {x:α} (hx:l[i]? = some x):gload P σ e (.ref q (i * k)) = some (.agg (f x)):=by
 have hb:=rw_bound (k:=k) hx
 simp only [gload,h,Option.bind_some]
 unfold gpart
 rw [ha,hs]
 simp only []
 rw [if_pos (by rw [rw_len hk]; exact hb),rw_one hk hx]
theorem rowA_fld (hk:∀ x,(f x).length = k) {e t:TypeId} (ha:tagg P t = some false) (hs:tsize P t = some 1) {σ:Sto} {l:List α} {q:Nat} (h:sget σ q = some ⟨e,l.flatMap f,none⟩) {i j:Nat} {x:α} {g:G} (hx:l[i]? = some x) (hj:j < k) (hg:(f x)[j]? = some g):gload P σ t (.ref q (i * k + j)) = some g:=by
 simp only [gload,h,Option.bind_some]
 unfold gpart
 rw [ha,hs]
 simp only []
 rw [rw_at hk hx hj,hg]
theorem rowA_sub (hk:∀ x,(f x).length = k) {e t:TypeId} {m:Nat} (ha:tagg P t = some true) (hs:tsize P t = some m) {σ:Sto} {l:List α} {q:Nat} (h:sget σ q = some ⟨e,l.flatMap f,none⟩) {i j:Nat} {x:α} (hx:l[i]? = some x) (hj:j + m ≤ k):gload P σ t (.ref q (i * k + j)) = some (.agg (((f x).drop j).take m)):=by
 have hb:=rw_bound (k:=k) hx
 simp only [gload,h,Option.bind_some]
 unfold gpart
 rw [ha,hs]
 simp only []
 rw [if_pos (by rw [rw_len hk]; omega),rw_sub hk hx hj]
end
end
section
open Go.RowKit
section
variable {P:Program}
def XSame (ob ob':Ob):Prop:=(ob.x = none ∧ ob'.x = none) ∨ ∃ es clk,ob.x = some (.map es clk) ∧ ob'.x = some (.map es clk) ∧ ∀ e ∈ es,∃ v,e.2.1 = .lit v
theorem xo_lit {β β':Bm} {S S':Nat → Prop} {w:World} {es:List (Value × G × Nat)} {clk:Nat} {o:Obj} (hl:∀ e ∈ es,∃ v,e.2.1 = .lit v) (h:XO β S w (.map es clk) o):XO β' S' w (.map es clk) o:=by
 obtain ⟨ents,h1,h2,h3⟩:=h
 refine ⟨ents,h1,h2,fun j k g n hj => ?_⟩
 obtain ⟨e,e1,e2,e3,e4⟩:=h3 j k g n hj
 obtain ⟨v,hv⟩:=hl _ (List.mem_of_getElem? hj)
 dsimp only at hv
 subst hv
 exact ⟨e,e1,e2,e3,by rw [e4.lit_eq]; exact .imm _ _ (.lit _)⟩
def VwN (P:Program) (st:St) (ρ:List (Nat × Nat)) (L:List Nat) (σ0:Sto):Prop:=∀ i ob',sget σ0 i = some ob' → ∃ j ob,rho ρ i = some j ∧ j ∉ L ∧ sget st.σ j = some ob ∧ ob'.t = ob.t ∧ ob'.l.length ≤ ob.l.length ∧ (ob.l = [] → ob'.l = []) ∧ XSame ob ob' ∧ ∀ (k:Nat) (g g':G),ob.l[k]? = some g → ob'.l[k]? = some g' → Vw P st ρ L g g'
def AfN (st:St) (ρ0 ρ1:List (Nat × Nat)) (L:List Nat) (σ1 σ':Sto):Prop:=∀ k ob',sget σ' k = some ob' →
 (∃ i ob,rho ρ1 k = some i ∧ sget σ1 i = some ob ∧ ob'.t = ob.t ∧ ob'.l.length ≤ ob.l.length ∧ (ob.l = [] → ob'.l = []) ∧ XSame ob ob' ∧ ∀ (x:Nat) (g g':G),ob.l[x]? = some g → ob'.l[x]? = some g' → Rn ρ1 g g') ∨
 (rho ρ1 k = none ∧ sget st.σ k = some ob' ∧ k ∉ ρ0.map (·.2) ∧ k ∉ L)
theorem gs_callN {o:Oper} {st:St} {f:Operand} {xs:Array Operand} {ats:Array TypeId} {fid:FuncId} {fst cap gs:List G} {r r':G} {σ0 σ1 σ':Sto} {c0 p c':Nat} (ρ0 ρ1:List (Nat × Nat)) (L:List Nat)
  (ho:o.op = .call { callee:=.value f,args:=xs,argTypes:=ats }) (hd:∀ d,o.dst = some d → d < st.n) (hf:gev st f = .clo (.func fid) fst cap) (hc:callable P fid = true)
  (hF:FnM P st.gl fid gs σ0 c0 p r σ1) (hl:gs.length = (fst ++ xs.toList.map (gev st) ++ cap).length) (hi:∀ (i:Nat) (g g':G),(fst ++ xs.toList.map (gev st) ++ cap)[i]? = some g → gs[i]? = some g' → Vw P st ρ0 L g g')
  (hinj0:∀ i i' j,rho ρ0 i = some j → rho ρ0 i' = some j → i = i') (hc0:∀ q ∈ ρ0,q.1 < c0) (hσ0:VwN P st ρ0 L σ0)
  (hcc:st.c ≤ c') (hpin:∀ k i,rho ρ1 k = some i → k < st.c → i < p ∧ rho ρ0 i = some k) (hinj1:∀ k k' i,rho ρ1 k = some i → rho ρ1 k' = some i → k = k') (hc1:∀ q ∈ ρ1,q.1 < c') (hσ':AfN st ρ0 ρ1 L σ1 σ') (hr:Rn ρ1 r r') :
  GS P o st ({ st with σ:=σ',c:=c' }.put o.dst r'):=by
 intro cx a w K R ⟨β,h⟩ hK
 obtain ⟨vs,hrun,hsz,hv⟩:=run_call h ho hf hc
 refine h.loose.oper (fun c hc => by rw [ho] at hc; cases hc) ?_
 unfold Oper.wp
 rw [hrun]
 -- the callee's view
 let βc:Bm:=fun i => (rho ρ0 i).bind β
 let S:Nat → Prop:=fun b => cx.S0 b ∨ ∃ i ob C,sget st.σ i = some ob ∧ β i = some (some (b,C)) ∧ i ∉ ρ0.map (·.2) ∧ i ∉ L
 have hlivc:∀ b,Liv βc σ0 b → ∃ j ob C,j ∈ ρ0.map (·.2) ∧ j ∉ L ∧ sget st.σ j = some ob ∧ β j = some (some (b,C)):=by
  rintro b ⟨i,ob',C,h1,h2⟩
  obtain ⟨j,ob,h3,h4,h5,_⟩:=hσ0 i ob' h1
  have h2':(rho ρ0 i).bind β = some (some (b,C)):=h2
  rw [h3] at h2'
  exact ⟨j,ob,C,rho_mem h3,h4,h5,h2'⟩
 have hsub:∀ b,Av S βc σ0 b → cx.S0 b ∨ ∃ i ob C,sget st.σ i = some ob ∧ β i = some (some (b,C)) ∧ i ∉ L:=by
  rintro b ((hb | ⟨i,ob,C,h1,h2,_,h3⟩) | hb)
  ·exact .inl hb
  ·exact .inr ⟨i,ob,C,h1,h2,h3⟩
  ·obtain ⟨j,ob,C,_,h2,h3,h4⟩:=hlivc b hb
   exact .inr ⟨j,ob,C,h3,h4,h2⟩
 have hsubA:∀ b,Av S βc σ0 b → Av cx.S0 β st.σ b:=by
  intro b hb
  rcases hsub b hb with hb | ⟨i,ob,C,h1,h2,_⟩
  ·exact .inl hb
  ·exact .inr ⟨i,ob,C,h1,h2⟩
 have hSlt:∀ b,S b → b < w.heap.size:=by
  rintro b (hb | ⟨i,ob,C,h1,h2,_⟩)
  ·exact h.keep.lt (h.old b hb)
  ·exact h.lt h1 h2
 have hRS:RS P βc S σ0 w:={
  ob:=fun i ob' h1 => by
   obtain ⟨j,ob,h3,h4,h5,h6,h7,h8,hx,h9⟩:=hσ0 i ob' h1
   rcases hx with ⟨hx1,hx2⟩ | ⟨es,clk,hx1,hx2,hlit⟩
   rotate_left
   ·rcases h.ob j ob h5 with ⟨_,_,hx' | hx'⟩ | ⟨b,x',o',hx',e1,e2,e3,e4⟩ | ⟨b,C,cur,hx',_⟩
    ·rw [hx1] at hx'; cases hx'
    ·rw [hx1] at hx'; cases hx'
    ·rw [hx1] at hx'
     cases hx'
     exact .inr (.inl ⟨b,_,o',hx2,h8 e1,by show (rho ρ0 i).bind β = _; rw [h3]; exact e2,e3,xo_lit hlit e4⟩)
    ·rw [hx1] at hx'; cases hx'
   rcases h.ob j ob h5 with ⟨e1,e2,_⟩ | ⟨b,x',o',hx',_⟩ | ⟨b,C,cur,_,e1,e2,e3,e4,e5,e6⟩
   ·exact .inl ⟨by show (rho ρ0 i).bind β = _; rw [h3]; exact e1,h8 e2,.inl hx2⟩
   ·rw [hx1] at hx'; cases hx'
   ·refine .inr (.inr ⟨b,C,cur,hx2,by show (rho ρ0 i).bind β = _; rw [h3]; exact e1,by rw [h6]; exact e2,by rw [h6]; exact e3,e4,by omega,fun k g' hg' => ?_⟩)
    have hlt:=(List.getElem?_eq_some_iff.1 hg').1
    have hx:ob.l[k]? = some (ob.l[k]'(by omega)):=by simp [show k < ob.l.length by omega]
    obtain ⟨u,hu,h1',hr⟩:=e6 k _ hx
    exact ⟨u,hu,h1',(h9 k _ g' hx hg' cx a w β h u hr).step (fun _ _ x => x) (fun b _ hb => hsub b hb) (Keeps.refl _ _)⟩
  inj:=fun i i' o1 o2 b C D h1 h2 h3 h4 => by
   obtain ⟨j,ob,e1,_,e3,_⟩:=hσ0 i o1 h1
   obtain ⟨j',ob',f1,_,f3,_⟩:=hσ0 i' o2 h2
   have h3':(rho ρ0 i).bind β = some (some (b,C)):=h3
   have h4':(rho ρ0 i').bind β = some (some (b,D)):=h4
   rw [e1] at h3'
   rw [f1] at h4'
   have:=h.inj j j' ob ob' b C D e3 f3 h3' h4'
   subst this
   exact hinj0 i i' j e1 f1
  sep:=fun i o1 b C h1 h2 hb => by
   obtain ⟨j,ob,e1,e2,e3,_⟩:=hσ0 i o1 h1
   have h2':(rho ρ0 i).bind β = some (some (b,C)):=h2
   rw [e1] at h2'
   rcases hb with hb | ⟨k,ob',D,f1,f2,f3,_⟩
   ·exact h.sep j ob b C e3 h2' hb
   ·have:=h.inj j k ob ob' b C D e3 f1 h2' f2
    subst this
    exact f3 (rho_mem e1) }
 refine (hF w βc S vs hSlt (fun i hi => ?_) (fun g l hl => (h.glob g l hl).sub fun b _ hb => hsubA b hb) hRS (by omega) (fun i g u hg hu => ?_)).mono ?_
 ·show (rho ρ0 i).bind β = none
  cases hr0:rho ρ0 i with
  | none => rfl
  | some j => have:=hc0 _ (rho_key hr0); simp at this; omega
 ·have hlt:=(List.getElem?_eq_some_iff.1 hg).1
  have hx:(fst ++ xs.toList.map (gev st) ++ cap)[i]? = some ((fst ++ xs.toList.map (gev st) ++ cap)[i]'(by omega)):=by rw [List.getElem?_eq_getElem]
  exact (hi i _ g hx hg cx a w β h u (hv i _ u hx hu)).step (fun _ _ x => x) (fun b _ hb => hsub b hb) (Keeps.refl _ _)
 ·rintro e w' ⟨v,β1,rfl,M⟩
  refine hK _ _ ⟨fun k => match rho ρ1 k with | some i => β1 i | none => β k,?_⟩
  have hext:∀ k x,β k = some x → (match rho ρ1 k with | some i => β1 i | none => β k) = some x:=by
   intro k x hk
   cases hr1:rho ρ1 k with
   | none => exact hk
   | some i =>
    have hkc:k < st.c:=by
     rcases Nat.lt_or_ge k st.c with h' | h'
     ·exact h'
     ·rw [h.fresh k h'] at hk; cases hk
    obtain ⟨h1,h2⟩:=hpin k i hr1 hkc
    show β1 i = some x
    rw [M.pin i h1]
    show (rho ρ0 i).bind β = some x
    rw [h2]; exact hk
  have hkp:Keeps (Av cx.S0 β st.σ) w w':=M.keep.mono fun b _ hb => by
   obtain ⟨j,ob,C,_,_,h3,h4⟩:=hlivc b hb
   exact .inr ⟨j,ob,C,h3,h4⟩
  -- an object of the new state
  have hnew:∀ k ob' b C,sget σ' k = some ob' → (match rho ρ1 k with | some i => β1 i | none => β k) = some (some (b,C)) →
    (∃ i ob,rho ρ1 k = some i ∧ sget σ1 i = some ob ∧ β1 i = some (some (b,C))) ∨ (rho ρ1 k = none ∧ sget st.σ k = some ob' ∧ k ∉ ρ0.map (·.2) ∧ k ∉ L ∧ β k = some (some (b,C))):=by
   intro k ob' b C hk hb
   rcases hσ' k ob' hk with ⟨i,ob,h1,h2,_⟩ | ⟨h1,h2,h3,h4⟩
   ·rw [h1] at hb; exact .inl ⟨i,ob,h1,h2,hb⟩
   ·rw [h1] at hb; exact .inr ⟨h1,h2,h3,h4,hb⟩
  have hAv:∀ b,Av cx.S0 (fun k => match rho ρ1 k with | some i => β1 i | none => β k) σ' b → Av S β1 σ1 b:=by
   rintro b (hb | ⟨k,ob',C,hk,hb⟩)
   ·exact .inl (.inl hb)
   ·rcases hnew k ob' b C hk hb with ⟨i,ob,_,h2,h3⟩ | ⟨_,h2,h3,h4,h5⟩
    ·exact .inr ⟨i,ob,C,h2,h3⟩
    ·exact .inl (.inr ⟨k,ob',C,h2,h5,h3,h4⟩)
  have hAo:∀ b,b < w.heap.size → Av cx.S0 (fun k => match rho ρ1 k with | some i => β1 i | none => β k) σ' b → Av cx.S0 β st.σ b:=by
   intro b hlt hb
   rcases hAv b hb with (hb | ⟨i,ob,C,h1,h2,_⟩) | hb
   ·exact .inl hb
   ·exact .inr ⟨i,ob,C,h1,h2⟩
   ·rcases M.old b hb with hb | hb
    ·obtain ⟨j,ob,C,_,_,h3,h4⟩:=hlivc b hb
     exact .inr ⟨j,ob,C,h3,h4⟩
    ·omega
  have hmid:RelB P cx { st with σ:=σ',c:=c' } a w' (fun k => match rho ρ1 k with | some i => β1 i | none => β k):={
   size:=h.size
   defers:=h.defers.keep M.keep (fun D hD hx => by
    obtain ⟨j,ob,C,_,_,h3,h4⟩:=hlivc D hx
    exact h.not_marks h3 h4 hD)
   loose:=h.loose
   rnd:=h.rnd
   fr:=fun i => (h.fr i).step hext hAo hkp
   ob:=fun k ob' hk => by
    rcases hσ' k ob' hk with ⟨i,ob,h1,h2,h3,h4,h5,h6⟩ | ⟨h1,h2,h3,h4⟩
    ·obtain ⟨hx,h6⟩:=h6
     rcases hx with ⟨hx1,hx2⟩ | ⟨es,clk,hx1,hx2,hlit⟩
     rotate_left
     ·rcases M.rs.ob i ob h2 with ⟨_,_,hx' | hx'⟩ | ⟨b,x',o',hx',e1,e2,e3,e4⟩ | ⟨b,C,cur,hx',_⟩
      ·rw [hx1] at hx'; cases hx'
      ·rw [hx1] at hx'; cases hx'
      ·rw [hx1] at hx'
       cases hx'
       exact .inr (.inl ⟨b,_,o',hx2,h5 e1,by simp only [h1]; exact e2,e3,xo_lit hlit e4⟩)
      ·rw [hx1] at hx'; cases hx'
     rcases M.rs.ob i ob h2 with ⟨e1,e2,_⟩ | ⟨b,x',o',hx',_⟩ | ⟨b,C,cur,_,e1,e2,e3,e4,e5,e6⟩
     ·exact .inl ⟨by simp only [h1]; exact e1,h5 e2,.inl hx2⟩
     ·rw [hx1] at hx'; cases hx'
     ·refine .inr (.inr ⟨b,C,cur,hx2,by simp only [h1]; exact e1,by rw [h3]; exact e2,by rw [h3]; exact e3,e4,by omega,fun x g' hg' => ?_⟩)
      have hlt:=(List.getElem?_eq_some_iff.1 hg').1
      have hx:ob.l[x]? = some (ob.l[x]'(by omega)):=by simp [show x < ob.l.length by omega]
      obtain ⟨u,hu,h1',hr'⟩:=e6 x _ hx
      exact ⟨u,hu,h1',(h6 x _ g' hx hg' β β1 _ _ u hr').step (fun _ _ x => x) (fun b _ hb => hAv b hb) (Keeps.refl _ _)⟩
    ·refine (h.ob k ob' h2).step hext hAo hkp (fun b C hb => M.keep.block b (h.lt h2 hb) (fun hx => ?_))
     obtain ⟨j,ob,D,f1,_,f3,f4⟩:=hlivc b hx
     have:=h.inj j k ob ob' b D C f3 h2 f4 hb
     subst this
     exact h3 f1
   inj:=fun k k' o1 o2 b C D h1 h2 h3 h4 => by
    rcases hnew k o1 b C h1 h3 with ⟨i,ob,e1,e2,e3⟩ | ⟨e1,e2,e3,e4,e5⟩ <;> rcases hnew k' o2 b D h2 h4 with ⟨i',ob',f1,f2,f3⟩ | ⟨f1,f2,f3,f4,f5⟩
    ·have:=M.rs.inj i i' ob ob' b C D e2 f2 e3 f3
     subst this
     exact hinj1 k k' i e1 f1
    ·exfalso
     rcases M.old b ⟨i,ob,C,e2,e3⟩ with hb | hb
     ·obtain ⟨j,ob2,E,g1,_,g3,g4⟩:=hlivc b hb
      have:=h.inj j k' ob2 o2 b E D g3 f2 g4 f5
      subst this
      exact f3 g1
     ·have:=h.lt f2 f5; omega
    ·exfalso
     rcases M.old b ⟨i',ob',D,f2,f3⟩ with hb | hb
     ·obtain ⟨j,ob2,E,g1,_,g3,g4⟩:=hlivc b hb
      have:=h.inj j k ob2 o1 b E C g3 e2 g4 e5
      subst this
      exact e3 g1
     ·have:=h.lt e2 e5; omega
    ·exact h.inj k k' o1 o2 b C D e2 f2 e5 f5
   own:=fun k o1 b C h1 h3 => by
    rcases hnew k o1 b C h1 h3 with ⟨i,ob,e1,e2,e3⟩ | ⟨e1,e2,e3,e4,e5⟩
    ·rcases M.old b ⟨i,ob,C,e2,e3⟩ with hb | hb
     ·obtain ⟨j,ob2,E,g1,_,g3,g4⟩:=hlivc b hb
      exact h.own j ob2 b E g3 g4
     ·have:=h.keep.size; right; omega
    ·exact h.own k o1 b C e2 e5
   sep:=fun k o1 b C h1 h3 => by
    rcases hnew k o1 b C h1 h3 with ⟨i,ob,e1,e2,e3⟩ | ⟨e1,e2,e3,e4,e5⟩
    ·exact fun hx => M.rs.sep i ob b C e2 e3 (.inl hx)
    ·exact h.sep k o1 b C e2 e5
   fresh:=fun k hk => by
    have hk':c' ≤ k:=hk
    cases hr1:rho ρ1 k with
    | none => simp only []; exact h.fresh k (by omega)
    | some i => have:=hc1 _ (rho_key hr1); simp at this; omega
   glob:=fun g l hl => (h.glob g l hl).step hAo hkp
   keep:=h.keep.then M.keep (fun b hb hx => by
    obtain ⟨j,ob2,E,g1,_,g3,g4⟩:=hlivc b hx
    rcases h.own j ob2 b E g3 g4 with h1 | h1
    ·exact h1
    ·omega)
   old:=h.old
   pin:=fun i x hx => ⟨(h.pin i x hx).1,hext i x (h.pin i x hx).2⟩ }
  exact hmid.put o.dst hd ((hr β β1 _ _ v M.val).step (fun _ _ x => x) (fun b _ hb => hAv b hb) (Keeps.refl _ _))
end
end
section
open Go.RowKit
section
variable {P:Program} {ops:Array Oper} {K:St → Prop} {ty:TypeId} {pos:String} {af:Array Edge} {rest:List Oper} {n:Nat} {gl:List (Nat × List G)} {fr:Fr} {σ:Sto} {c p d j:Nat} {bars:List Nat} {rr:Bool}
theorem run_lk {t:TypeId} {x y:Operand} {ok:Bool} {gx gy g:G} (hx:gev ⟨n,gl,fr,σ,c,p,rr⟩ x = gx) (hy:gev ⟨n,gl,fr,σ,c,p,rr⟩ y = gy) (hg:glookup P σ t ok gx gy = some g) (hd:d < n) (h:Run P ops K rest ⟨n,gl,(d,g) :: fr,σ,c,p,rr⟩) :
  Run P ops K (⟨some d,.lookup t x y ok,ty,pos,af,none⟩ :: rest) ⟨n,gl,fr,σ,c,p,rr⟩:=by
 subst hx; subst hy
 exact run_e (st1:=⟨n,gl,(d,g) :: fr,σ,c,p,rr⟩) rfl (gs_lookup (st:=⟨n,gl,fr,σ,c,p,rr⟩) rfl (fun _ e => by cases e; exact hd) hg) h
theorem rund_lk {t:TypeId} {x y:Operand} {ok:Bool} {gx gy g:G} (hx:gev ⟨n,gl,fr,σ,c,p,rr⟩ x = gx) (hy:gev ⟨n,gl,fr,σ,c,p,rr⟩ y = gy) (hg:glookup P σ t ok gx gy = some g) (hd:d < n) (h:RunD P ops bars K (j + 1) rest ⟨n,gl,(d,g) :: fr,σ,c,p,rr⟩) :
  RunD P ops bars K j (⟨some d,.lookup t x y ok,ty,pos,af,none⟩ :: rest) ⟨n,gl,fr,σ,c,p,rr⟩:=by
 subst hx; subst hy
 refine .inl ⟨rfl,_,?_,h⟩
 rintro st' ⟨h1,h2,h3,h4,h5⟩ hx
 have e1:gev st' x = gev ⟨n,gl,fr,σ,c,p,rr⟩ x:=hx x (by simp [Op.operands])
 have e2:gev st' y = gev ⟨n,gl,fr,σ,c,p,rr⟩ y:=hx y (by simp [Op.operands])
 refine gs_lookup (st:=st') rfl (fun y e => by cases e; rw [h1]; exact hd) ?_
 rw [e1,e2,h3]
 exact hg
theorem run_mi {t:TypeId} {x y z:Operand} {gx gy gz:G} {i:Nat} {ob:Ob} (hx:gev ⟨n,gl,fr,σ,c,p,rr⟩ x = gx) (hy:gev ⟨n,gl,fr,σ,c,p,rr⟩ y = gy) (hz:gev ⟨n,gl,fr,σ,c,p,rr⟩ z = gz) (hg:gmapPut P σ t gx gy gz = some (i,ob)) (h:Run P ops K rest ⟨n,gl,fr,(i,some ob) :: σ,c,p,rr⟩) :
  Run P ops K (⟨none,.insert t x y z,ty,pos,af,none⟩ :: rest) ⟨n,gl,fr,σ,c,p,rr⟩:=by
 subst hx; subst hy; subst hz
 exact run_e (st1:=⟨n,gl,fr,(i,some ob) :: σ,c,p,rr⟩) rfl (gs_mapUpdate (st:=⟨n,gl,fr,σ,c,p,rr⟩) (.inr rfl) (fun _ e => by cases e) hg) h
theorem rund_mu {t:TypeId} {x y z:Operand} {gx gy gz:G} {i:Nat} {ob:Ob} (hb:bars.contains j = true) (hx:gev ⟨n,gl,fr,σ,c,p,rr⟩ x = gx) (hy:gev ⟨n,gl,fr,σ,c,p,rr⟩ y = gy) (hz:gev ⟨n,gl,fr,σ,c,p,rr⟩ z = gz) (hg:gmapPut P σ t gx gy gz = some (i,ob)) (h:RunD P ops bars K (j + 1) rest ⟨n,gl,fr,(i,some ob) :: σ,c,p,rr⟩) :
  RunD P ops bars K j (⟨none,.mapUpdate t x y z,ty,pos,af,none⟩ :: rest) ⟨n,gl,fr,σ,c,p,rr⟩:=by
 subst hx; subst hy; subst hz
 exact rund_e (g:=.junk) (σ':=(i,some ob) :: σ) (c':=c) hb rfl (gs_mapUpdate (st:=⟨n,gl,fr,σ,c,p,rr⟩) (.inl rfl) (fun _ e => by cases e) hg) h
theorem run_mk {t:TypeId} (hg:gmakeMap P t none = true) (hd:d < n) (h:Run P ops K rest ⟨n,gl,(d,.mref c) :: fr,(c,some ⟨t,[],some (.map [] 0)⟩) :: σ,c + 1,p,rr⟩) :
  Run P ops K (⟨some d,.makeMap t none,ty,pos,af,none⟩ :: rest) ⟨n,gl,fr,σ,c,p,rr⟩:=run_e rfl (gs_makeMap (st:=⟨n,gl,fr,σ,c,p,rr⟩) rfl (fun _ e => by cases e; exact hd) hg) h
theorem ged_cf {f:Operand} {xs:Array Operand} {ats:Array TypeId} {fid:FuncId} {gs:List G} {r:G} {gq:Option (Nat × Bool)} (hw:gwant ⟨n,gl,fr,σ,c,p,rr⟩ ops ⟨some d,.call { callee:=.value f,args:=xs,argTypes:=ats },ty,pos,af,gq⟩ = some true) (hF:Fn' P gl fid gs r) (hc:callable P fid = true) (fst cap:List G) (hf:gev ⟨n,gl,fr,σ,c,p,rr⟩ f = .clo (.func fid) fst cap) (hg:fst ++ xs.toList.map (gev ⟨n,gl,fr,σ,c,p,rr⟩) ++ cap = gs) (hi:∀ g ∈ gs,ImmG g) (hd:d < n) (h:Run P ops K rest ⟨n,gl,(d,r) :: fr,σ,c,p,rr⟩) :
  Run P ops K (⟨some d,.call { callee:=.value f,args:=xs,argTypes:=ats },ty,pos,af,gq⟩ :: rest) ⟨n,gl,fr,σ,c,p,rr⟩:=by
 subst hg
 exact ged_e (st1:=⟨n,gl,(d,r) :: fr,σ,c,p,rr⟩) hw (gs_call (st:=⟨n,gl,fr,σ,c,p,rr⟩) rfl (fun _ e => by cases e; exact hd) hf hc hi hF) h
theorem run_ln {t:TypeId} {x:Operand} {gx:G} {m:Int} (hx:gev ⟨n,gl,fr,σ,c,p,rr⟩ x = gx) (ht:(telem P t).isSome = true) (hl:glen gx = some m) (hd:d < n) (h:Run P ops K rest ⟨n,gl,(d,.lit (.int .i64 m)) :: fr,σ,c,p,rr⟩) :
  Run P ops K (⟨some d,.call { callee:=.builtin .len,args:=#[x],argTypes:=#[t] },ty,pos,af,none⟩ :: rest) ⟨n,gl,fr,σ,c,p,rr⟩:=run_v (by rw [ev_len,if_pos ht,hx,hl]; rfl) hd h
theorem run_r {xs:Array Operand} {ats:Array TypeId} {fid:FuncId} {gs:List G} {t:TypeId} {m:Nat} {l:List G} (hF:FnR P gl fid gs t m l) (hc:callable P fid = true) (hd:d < n) (hg:xs.toList.map (gev ⟨n,gl,fr,σ,c,p,rr⟩) = gs) (hi:∀ g ∈ gs,ImmG g) (hlit:∀ g ∈ l,∃ v,g = .lit v) (h:Run P ops K rest ⟨n,gl,(d,.rsl c 0 m) :: fr,(c,some ⟨t,l,none⟩) :: σ,c + 1,p,rr⟩) :
  Run P ops K (⟨some d,.call { callee:=.value (.func fid),args:=xs,argTypes:=ats },ty,pos,af,none⟩ :: rest) ⟨n,gl,fr,σ,c,p,rr⟩:=by
 subst hg
 have:=gs_lendR (o:=⟨some d,.call { callee:=.value (.func fid),args:=xs,argTypes:=ats },ty,pos,af,none⟩) (st:=⟨n,gl,fr,σ,c,p,rr⟩) (fst:=[]) (cap:=[]) (gs:=xs.toList.map (gev ⟨n,gl,fr,σ,c,p,rr⟩)) (t:=t) (m:=m) (l:=l) rfl (fun y e => by cases e; exact hd) rfl hc (by simp) (fun i g g' h1 h2 => by
  simp only [List.nil_append,List.append_nil] at h1
  rw [h1] at h2
  cases h2
  exact frz_imm (hi _ (List.mem_of_getElem? h1))) hF hlit
 exact run_e rfl this h
theorem ged_bd {t:TypeId} {parts:Array (Nat × Operand)} {g:G} {gq:Option (Nat × Bool)} (hw:gwant ⟨n,gl,fr,σ,c,p,rr⟩ ops ⟨some d,.build t parts,ty,pos,af,gq⟩ = some true) (hg:gbuild P t (parts.toList.map fun q => (q.1,gev ⟨n,gl,fr,σ,c,p,rr⟩ q.2)) = some g) (hd:d < n) (h:Run P ops K rest ⟨n,gl,(d,g) :: fr,σ,c,p,rr⟩) :
  Run P ops K (⟨some d,.build t parts,ty,pos,af,gq⟩ :: rest) ⟨n,gl,fr,σ,c,p,rr⟩:=ged_e (st1:=⟨n,gl,(d,g) :: fr,σ,c,p,rr⟩) hw (gs_build (st:=⟨n,gl,fr,σ,c,p,rr⟩) rfl (fun _ e => by cases e; exact hd) hg) h
theorem rf_w0 {ops:Array Oper} {K:St → Prop} {rest:List Oper} {inf:List DI} {st:St} {o:Oper} {g:G} {U O:Sto} {R:List Nat} (k:Nat) (hO:O = U.map fun q => (q.1,sget st.σ q.1)) (hg:o.guard = none) (ho:o.dst = none) (hf:isFree o = false) (he:xeffF P (fun _ _ _ => none) o st k = some (g,U,R,false,st.c)) (h:RunF P ops K rest inf { st with σ:=U ++ st.σ }) :
  RunF P ops K (o :: rest) (.wr R U O false :: inf) st:=by
 subst hO
 have hb:=(xeffF_bg noRun (fun x e => by rw [ho] at e; cases e) he).1
 refine ⟨g,{ st with σ:=U ++ st.σ,c:=st.c }.put o.dst g,⟨fun hf' => (by rw [hf] at hf'; cases hf'),.inl ⟨by simp [gwant,hg],.inl ⟨R,U,_,false,st.c,rfl,rfl,fun _ => rfl,fun x hx => ?_,by simp,fun st'' e1 e2 e3 e4 e5 e6 => ?_⟩⟩⟩,by rw [ho]; exact h⟩
 ·have hx:x ∈ U.map (·.1):=hx
  have key:∀ (U:Sto),x ∈ U.map (·.1) → sget (U.map fun q => (q.1,sget st.σ q.1)) x = sget st.σ x:=by
   intro U
   induction U with
   | nil => intro h; cases h
   | cons q r ih =>
    intro h
    rw [List.map_cons,sget_cons]
    split
    ·rename_i e; rw [e]
    ·rename_i e
     simp only [List.map_cons,List.mem_cons] at h
     exact ih (h.resolve_left fun e' => e e'.symm)
  exact key U hx
 ·exact hb st'' e1 e2 e3 e4 e5 e6
end
theorem xeff_alloc {P:Program} {run:XRun} {st:St} {o:Oper} {k:Nat} {t:TypeId} {l:List G} (hop:o.op = .alloc t) (hr:isResv (sget st.σ k) = true) (hp:Nat.ble st.p k = true) (hg:galloc P t = some l) :
  xeffF P run o st k = some (.ref k 0,[(k,some ⟨t,l,none⟩)],[k],false,st.c):=by
 obtain ⟨dst,op,ty,pos,af,gd⟩:=o
 obtain rfl:op = _:=hop
 unfold xeffF
 simp only [hr,hp,hg,Bool.and_self,cond_true,Option.map_some]
theorem xeff_sto {P:Program} {run:XRun} {st:St} {o:Oper} {k i:Nat} {t:TypeId} {x y:Operand} {R:List Nat} {ob:Ob} (hop:o.op = .store t x y) (hR:rdOf (gev st x) = R) (hg:gsto P st.σ t (gev st x) (gev st y) = some (i,ob)) :
  xeffF P run o st k = some (.lit undef,[(i,some ob)],R,false,st.c):=by
 obtain ⟨dst,op,ty,pos,af,gd⟩:=o
 obtain rfl:op = _:=hop
 subst hR
 unfold xeffF
 simp only [hg,Option.map_some]
theorem xeff_app0 {P:Program} {run:XRun} {st:St} {o:Oper} {k i m:Nat} {t e:TypeId} {x y:Operand} {l:List G} {R:List Nat} (hop:o.op = .call { callee:=.builtin .append,args:=#[x,y],argTypes:=#[t,t] }) (hr:isResv (sget st.σ k) = true) (hp:Nat.ble st.p k = true) (hx:gev st x = .lit (.slice none 0 0)) (hR:rdOf (gev st y) = R) (hg:gapp P st.σ st.c t (gev st x) (gev st y) = some (e,i,m,l)) :
  xeffF P run o st k = some (.rsl k 0 m,[(k,some ⟨e,l,none⟩)],k :: R,false,st.c):=by
 obtain ⟨dst,op,ty,pos,af,gd⟩:=o
 obtain rfl:op = _:=hop
 subst hR
 unfold xeffF
 simp only [hr,hp,Bool.and_self,cond_true,hx,if_true]
 rw [hx] at hg
 rw [hg]
 rfl
theorem res_cell2 {P:Program} {rs:Array ResultVar} {a b:Tmp} {t:TypeId} {g g':G} {st:St} (hr:rs = #[.cell a t,.tmp b]) (hl:gload P st.σ t (fget st.fr a) = some g) (hb:fget st.fr b = g'):rs.toList.mapM (gres P st) = some [g,g']:=by
 subst hr; subst hb
 simp [gres,hl]
theorem ex_bthn {P:Program} {id:Nat} {x:Code} {st:St} {K K':St → Prop} {G:Exit → St → Prop} (h:Ex P x st (fun e s => e = .exit id ∧ K s)) (hk:∀ s,K s → K' s):Ex P x st (Blk' id (Thn K' G)):=h.mono fun e s hs => by
 obtain ⟨rfl,h2⟩:=hs
 exact blk_e (thn_n (hk s h2))
theorem ex_bthnR {P:Program} {id:Nat} {x:Code} {st:St} {K K':St → Prop} {G:Exit → St → Prop} (h:Ex P x st (fun e s => (e = .exit id ∧ K s) ∨ (e = .ret ∧ G .ret s))) (hk:∀ s,K s → K' s):Ex P x st (Blk' id (Thn K' G)):=h.mono fun e s hs => by
 rcases hs with ⟨rfl,h2⟩ | ⟨rfl,h2⟩
 ·exact blk_e (thn_n (hk s h2))
 ·exact blk_r (thn_r h2)
theorem row_appS {P:Program} {t e:TypeId} {s b:Nat} {zs:List Value} (he:telem P t = some e) (hs:tsize P e = some s) (h0:0 < s) (hz:tzero P e = some zs) (hzl:zs.length = s) (hb:(P.info? e).map (·.bytes) = some b) {σ:Sto} {n:Nat} {l:List G} {j:Nat} (h1:sget σ j = some ⟨e,l,none⟩) (h2:l.length = n * s) {gy:G} {news:List G} {m:Nat} (hv:gview σ s gy = some (news,m)) (hbd:n + m ≤ 9223372036854775807 ∧ (n + m) * b ≤ 140737488355328) (c:Nat) :
  gapp P σ c t (.rsl j 0 n) gy = some (e,j,n + m,l ++ news):=by
 unfold gapp
 rw [he]
 simp only [Option.bind_some,hs,hz,hb,hv,gsrc,h1]
 rw [if_pos (by simp [h2])]
 simp only [Option.bind_some]
 rw [if_pos ⟨h0,hzl,hbd.1,hbd.2⟩]
theorem le_short {P:Program} {st:St} {j:Nat} {t:TypeId} {l:List G} (h:sget st.σ j = some ⟨t,l,none⟩) (k:Nat):Le P st { st with σ:=(j,some ⟨t,l.take k,none⟩) :: st.σ }:=by
 rintro cx a w ⟨β,r⟩
 have hs:∀ i o,sget ((j,some ⟨t,l.take k,none⟩) :: st.σ) i = some o → ∃ o',sget st.σ i = some o' ∧ ((i = j ∧ o = ⟨t,l.take k,none⟩ ∧ o' = ⟨t,l,none⟩) ∨ o = o'):=fun i o hi => by
  rw [sget_cons] at hi
  split at hi
  ·rename_i e
   cases hi
   subst e
   exact ⟨_,h,.inl ⟨rfl,rfl,rfl⟩⟩
  ·exact ⟨o,hi,.inr rfl⟩
 have hs':∀ i o,sget st.σ i = some o → ∃ o',sget ((j,some ⟨t,l.take k,none⟩) :: st.σ) i = some o':=fun i o hi => by
  rw [sget_cons]
  split
  ·exact ⟨_,rfl⟩
  ·exact ⟨o,hi⟩
 have hA:Av cx.S0 β ((j,some ⟨t,l.take k,none⟩) :: st.σ) = Av cx.S0 β st.σ:=by
  funext b
  apply propext
  constructor
  ·rintro (hb | ⟨i,o,C,h1,h2⟩)
   ·exact .inl hb
   ·obtain ⟨o',h3,_⟩:=hs i o h1
    exact .inr ⟨i,o',C,h3,h2⟩
  ·rintro (hb | ⟨i,o,C,h1,h2⟩)
   ·exact .inl hb
   ·obtain ⟨o',h3⟩:=hs' i o h1
    exact .inr ⟨i,o',C,h3,h2⟩
 refine ⟨β,{ size:=r.size,defers:=r.defers,loose:=r.loose,rnd:=r.rnd,fr:=fun i => ?_,ob:=fun i o hi => ?_,inj:=fun i i' o o' b C D h1 h2 h3 h4 => ?_,own:=fun i o b C h1 h2 => ?_,sep:=fun i o b C h1 h2 => ?_,fresh:=r.fresh,glob:=fun g m hl => ?_,keep:=r.keep,old:=r.old,pin:=r.pin }⟩
 ·have:=r.fr i
  show RV β (Av cx.S0 β ((j,some ⟨t,l.take k,none⟩) :: st.σ)) w (fget st.fr i) _
  rw [hA]; exact this
 ·show RO P β (Av cx.S0 β ((j,some ⟨t,l.take k,none⟩) :: st.σ)) w i o
  rw [hA]
  obtain ⟨o',h1,⟨rfl,rfl,rfl⟩ | rfl⟩:=hs i o hi
  ·rcases r.ob _ _ h1 with ⟨e1,e2,e3⟩ | ⟨b,x,o,e1,_⟩ | ⟨b,C,cur,e1,e2,e3,e4,e5,e6,e7⟩
   ·have e2:l = []:=e2
    subst e2
    exact .inl ⟨e1,by simp,e3⟩
   ·cases e1
   ·have e6:l.length ≤ cur.size:=e6
    have e7:∀ (j:Nat) (g:G),l[j]? = some g → ∃ u,cur[j]? = some u ∧ u.oneCell' = true ∧ RV β (Av cx.S0 β st.σ) w g u:=e7
    refine .inr (.inr ⟨b,C,cur,e1,e2,e3,e4,e5,?_,fun x g hg => e7 x g ?_⟩)
    ·show (l.take k).length ≤ _
     rw [List.length_take]; omega
    ·have hg:(l.take k)[x]? = some g:=hg
     have:=(List.getElem?_eq_some_iff.1 hg).1
     rw [List.length_take] at this
     rwa [List.getElem?_take_of_lt (by omega)] at hg
  ·exact r.ob _ _ h1
 ·obtain ⟨o1,h1',_⟩:=hs i o h1
  obtain ⟨o2,h2',_⟩:=hs i' o' h2
  exact r.inj i i' o1 o2 b C D h1' h2' h3 h4
 ·obtain ⟨o1,h1',_⟩:=hs i o h1
  exact r.own i o1 b C h1' h2
 ·obtain ⟨o1,h1',_⟩:=hs i o h1
  exact r.sep i o1 b C h1' h2
 ·have:=r.glob g m hl
  show IV (Av cx.S0 β ((j,some ⟨t,l.take k,none⟩) :: st.σ)) w _ _
  rw [hA]; exact this
section
variable {P:Program} {ops:Array Oper} {K:St → Prop} {ty:TypeId} {pos:String} {af:Array Edge} {rest:List Oper} {n:Nat} {gl:List (Nat × List G)} {fr:Fr} {σ:Sto} {c p d j:Nat} {bars:List Nat} {rr:Bool}
theorem ged_nc {op:BinOp} {t t':TypeId} {x y:Operand} {gx gy g:G} {gq:Option (Nat × Bool)} (hw:gwant ⟨n,gl,fr,σ,c,p,rr⟩ ops ⟨some d,.binOp op t x y t',ty,pos,af,gq⟩ = some true) (hx:gev ⟨n,gl,fr,σ,c,p,rr⟩ x = gx) (hy:gev ⟨n,gl,fr,σ,c,p,rr⟩ y = gy) (hg:gnilcmp P op t gx gy = some g) (hd:d < n) (h:Run P ops K rest ⟨n,gl,(d,g) :: fr,σ,c,p,rr⟩) :
  Run P ops K (⟨some d,.binOp op t x y t',ty,pos,af,gq⟩ :: rest) ⟨n,gl,fr,σ,c,p,rr⟩:=by
 subst hx; subst hy
 exact ged_e (st1:=⟨n,gl,(d,g) :: fr,σ,c,p,rr⟩) hw (gs_nilcmp (st:=⟨n,gl,fr,σ,c,p,rr⟩) rfl (fun _ e => by cases e; exact hd) hg) h
theorem okS_wr {R U O R' ck cu} (h:∀ y ∈ U.map (·.1),y ∉ R'):okS (.wr R U O cu) (.rd R' ck) = true:=by
 have:meets (U.map (·.1)) R' = false:=by
  cases hm:meets (U.map (·.1)) R' with
  | false => rfl
  | true =>
   obtain ⟨x,hx,hy⟩:=List.any_eq_true.1 hm
   obtain ⟨y,hy,e⟩:=List.any_eq_true.1 hy
   have:=Nat.eq_of_beq_eq_true e
   subst this
   exact absurd hy (h _ hx)
 show (!meets (U.map (·.1)) R') = true
 rw [this]; rfl
theorem okS_rw {R U O R' ck cu} (h:∀ y ∈ U.map (·.1),y ∉ R'):okS (.rd R' ck) (.wr R U O cu) = true:=okS_wr (R:=R) (O:=O) (ck:=ck) (cu:=cu) h
end
section
variable {P:Program} {ops:Array Oper} {K:St → Prop} {rest:List Oper} {inf:List DI} {st:St}
theorem rfg_v {o:Oper} {d:Tmp} {g:G} (hw:gwant st ops o = some true) (ho:o.dst = some d) (hd:d < st.n) (he:evVal P (gev st) st.σ o = some g) (hl:∀ t x,o.op = .load t x → rdOf (gev st x) = []) (h:RunF P ops K rest inf (st.put (some d) g)):RunF P ops K (o :: rest) (dR :: inf) st:=by
 refine ⟨g,st.put o.dst g,⟨fun _ => ⟨_,rfl⟩,.inl ⟨hw,.inr ⟨[],_,rfl,rfl,fun V hV st'' e1 e2 e3 e4 => ?_⟩⟩⟩,by rw [ho]; exact h⟩
 refine gs_val (fun x e => by rw [ho] at e; cases e; rw [e1]; exact hd) ?_
 rw [evVal_congr (ρ:=gev st'') (ρ':=gev st) e4,evVal_storeL (ρ:=gev st) (σ:=st.σ) (σ':=st''.σ) (fun t x hx i hi => by rw [hl t x hx] at hi; cases hi)]
 exact he
theorem rfg_rd {o:Oper} {d:Tmp} {g:G} {R:List Nat} (hw:gwant st ops o = some true) (ho:o.dst = some d) (hf:isFree o = true → R = []) (hgs:∀ st'':St,st''.n = st.n → (∀ x ∈ R,sget st''.σ x = sget st.σ x) → (∀ x ∈ o.op.operands,gev st'' x = gev st x) → GS P o st'' (st''.put o.dst g)) (h:RunF P ops K rest inf (st.put (some d) g)):RunF P ops K (o :: rest) (.rd R (fun _ => false) :: inf) st:=by
 refine ⟨g,st.put o.dst g,⟨fun hf' => ⟨_,by rw [hf hf']⟩,.inl ⟨hw,.inr ⟨R,_,rfl,rfl,fun V hV st'' e1 e2 e3 e4 => ?_⟩⟩⟩,by rw [ho]; exact h⟩
 have hV:V = []:=by
  rcases hV with hV | hV
  ·exact hV
  ·cases hV
 subst hV
 exact hgs st'' e1 e3 e4
theorem rfg_ld {d:Tmp} {t ty:TypeId} {x:Operand} {pos:String} {af:Array Edge} {gq:Option (Nat × Bool)} {i k:Nat} {g:G} (hw:gwant st ops ⟨some d,.load t x,ty,pos,af,gq⟩ = some true) (hd:d < st.n) (hx:gev st x = .ref i k) (he:gload P st.σ t (.ref i k) = some g) (h:RunF P ops K rest inf (st.put (some d) g)) :
  RunF P ops K (⟨some d,.load t x,ty,pos,af,gq⟩ :: rest) (.rd [i] (fun _ => false) :: inf) st:=by
 refine rfg_rd hw rfl (fun h => by cases h) (fun st'' e1 e3 e4 => ?_) h
 refine gs_val (fun y e => by cases e; rw [e1]; exact hd) ?_
 have e5:gev st'' x = gev st x:=e4 x (by simp [Op.operands])
 show gload P st''.σ t (gev st'' x) = some g
 rw [e5,hx,← he]
 have e6:sget st''.σ i = sget st.σ i:=e3 i (by simp)
 simp only [gload,e6]
theorem rfg_nc {d:Tmp} {op:BinOp} {t t' ty:TypeId} {x y:Operand} {pos:String} {af:Array Edge} {gq:Option (Nat × Bool)} {gx gy g:G} (hw:gwant st ops ⟨some d,.binOp op t x y t',ty,pos,af,gq⟩ = some true) (hd:d < st.n) (hx:gev st x = gx) (hy:gev st y = gy) (hg:gnilcmp P op t gx gy = some g) (h:RunF P ops K rest inf (st.put (some d) g)) :
  RunF P ops K (⟨some d,.binOp op t x y t',ty,pos,af,gq⟩ :: rest) (dR :: inf) st:=by
 refine rfg_rd (R:=[]) hw rfl (fun _ => rfl) (fun st'' e1 e3 e4 => ?_) h
 refine gs_nilcmp rfl (fun z e => by cases e; rw [e1]; exact hd) ?_
 rw [e4 x (by simp [Op.operands]),e4 y (by simp [Op.operands]),hx,hy]
 exact hg
theorem rfg_str {d:Tmp} {t u ty e:TypeId} {x:Operand} {pos:String} {af:Array Edge} {gq:Option (Nat × Bool)} {j m:Nat} {s:List UInt8} (hw:gwant st ops ⟨some d,.convert t u x,ty,pos,af,gq⟩ = some true) (hd:d < st.n) (ht:telem P t = some e) (he:tint P e = some .u8) (hu:tstr P u = true) (hx:gev st x = .rsl j 0 m) (hv:gview st.σ 1 (.rsl j 0 m) = some (s.map gY,s.length)) (h:RunF P ops K rest inf (st.put (some d) (.lit (.string ⟨s.toArray⟩)))) :
  RunF P ops K (⟨some d,.convert t u x,ty,pos,af,gq⟩ :: rest) (.rd [j] (fun _ => false) :: inf) st:=by
 refine rfg_rd hw rfl (fun h => by cases h) (fun st'' e1 e3 e4 => ?_) h
 refine gs_stringOf (e:=e) rfl (fun y e => by cases e; rw [e1]; exact hd) ht he hu ?_
 rw [e4 x (by simp [Op.operands]),hx,← hv]
 have e6:sget st''.σ j = sget st.σ j:=e3 j (by simp)
 simp only [gview,e6]
theorem rfg_m {d:Tmp} {ty:TypeId} {f:Operand} {xs:Array Operand} {ats:Array TypeId} {pos:String} {af:Array Edge} {gq:Option (Nat × Bool)} {fid:FuncId} {gs:List G} {r:G} {σR σ' U O:Sto} {R:List Nat} {c c':Nat} (hw:gwant st ops ⟨some d,.call { callee:=.value f,args:=xs,argTypes:=ats },ty,pos,af,gq⟩ = some true) (hc:st.c = c) (hO:O = U.map fun q => (q.1,sget st.σ q.1)) (hM:McK P st.gl fid gs σR c r σ' c') (hk:∀ k,k < c → sget σ' k = sget σR k) (hU:∀ k o,sget U k = some o → sget σ' k = some o) (fst cap:List G) (hf:gev st f = .clo (.func fid) fst cap) (hg:fst ++ xs.toList.map (gev st) ++ cap = gs) (hd:d < st.n)
  (hR:∀ i o,sget σR i = some o → i ∈ R ∧ sget st.σ i = some o) (h:RunF P ops K rest inf ({ st with σ:=U ++ st.σ,c:=c' }.put (some d) r)) :
  RunF P ops K (⟨some d,.call { callee:=.value f,args:=xs,argTypes:=ats },ty,pos,af,gq⟩ :: rest) (.wr R U O true :: inf) st:=by
 subst hg; subst hc; subst hO
 refine ⟨r,_,⟨fun hf => (by cases hf),.inl ⟨hw,.inl ⟨R,U,_,true,c',rfl,rfl,fun h => (by cases h),fun x hx => ?_,by simp,fun st'' e1 e2 e3 e4 e5 e6 => ?_⟩⟩⟩,h⟩
 ·have key:∀ (U:Sto),x ∈ U.map (·.1) → sget (U.map fun q => (q.1,sget st.σ q.1)) x = sget st.σ x:=by
   intro U
   induction U with
   | nil => intro h; cases h
   | cons q r ih =>
    intro h
    rw [List.map_cons,sget_cons]
    split
    ·rename_i e; rw [e]
    ·rename_i e
     simp only [List.map_cons,List.mem_cons] at h
     exact ih (h.resolve_left fun e' => e e'.symm)
  exact key U hx
 ·have hcs:st''.c = st.c:=e4 rfl
  have hops:∀ x ∈ f :: xs.toList,gev st'' x = gev st x:=fun x hx => e6 x (by
   simp only [Op.operands,Call.operands]
   rcases List.mem_cons.1 hx with rfl | hx
   ·exact Array.mem_append.2 (.inl (by simp))
   ·exact Array.mem_append.2 (.inr (Array.mem_toList_iff.1 hx)))
  have hargs:xs.toList.map (gev st'') = xs.toList.map (gev st):=List.map_congr_left fun x hx => hops x (List.mem_cons_of_mem _ hx)
  have hRs:∀ i o,sget σR i = some o → sget st''.σ i = some o:=fun i o hi => by
   obtain ⟨h1,h2⟩:=hR i o hi
   rw [e5 i h1]; exact h2
  refine gs_mcR (st:=st'') (σR:=σR) (σ':=σ') (c':=c') rfl (fun y e => by cases e; rw [e1]; exact hd) ((hops f List.mem_cons_self).trans hf) (by rw [hargs,e2,hcs]; exact hM) hRs (U ++ st''.σ) (fun hb i o hi => ?_)
  rcases sget_append_some hi with hi | ⟨_,hi⟩
  ·exact .inl (hU i o hi)
  ·cases hRi:sget σR i with
   | none => exact .inr ⟨hi,rfl⟩
   | some o' =>
    have:=hRs i o' hRi
    rw [hi] at this
    cases this
    have hlt:=hb i o hi
    left
    rw [hk i (by omega),hRi]
end
theorem res_tc {P:Program} {rs:Array ResultVar} {a b:Tmp} {t:TypeId} {g g':G} {st:St} (hr:rs = #[.tmp a,.cell b t]) (ha:fget st.fr a = g) (hl:gload P st.σ t (fget st.fr b) = some g'):rs.toList.mapM (gres P st) = some [g,g']:=by
 subst hr; subst ha
 simp [gres,hl]
end
end Go.Proofs.YtpehhhbmobmedaaGreatDoor
