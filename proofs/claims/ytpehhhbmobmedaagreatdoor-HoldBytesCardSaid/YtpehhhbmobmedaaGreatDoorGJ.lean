/- A machine of values over the model, ninth part: append. -/
import Derived.Test.YtpehhhbmobmedaaGreatDoorGH
namespace Go.Proofs.YtpehhhbmobmedaaGreatDoor
set_option linter.unusedVariables false
set_option linter.unusedSimpArgs false
set_option linter.unusedSectionVars false
section
open Go.RowKit
section
variable {P:Program}

theorem run_append_none (w:World) (base:Nat) (t ty e:TypeId) (i:TypeInfo) (size:Nat) (ht:P.underlying t = some (.slice e)) (hi:P.info? e = some i)
  (v:Value) (n:Nat) (xs:List Value) (hown:w.ownsRow base e size v n xs) (A:Option Addr) (c:Nat):(Builtin.append_ #[t,t] ty #[v,.slice A 0 c]).run P w = .ok v w:=by
 rcases hown.2 with ⟨rfl,rfl⟩ | ⟨g,cap,cur,rfl,_,_,hnc,_⟩
 ·cases A <;> simp [Builtin.append_,run_underlying ht,sizeOf,typeInfo,hi,Builtin.lenOf,Builtin.firstCells,loadCells,loadCellsFrom]
 ·cases A <;> simp [Builtin.append_,run_underlying ht,sizeOf,typeInfo,hi,Builtin.lenOf,Builtin.firstCells,hnc,loadCells,loadCellsFrom,storeCells]

theorem run_append_any (w:World) (t ty e:TypeId) (i:TypeInfo) (z:Value) (size bytes:Nat) (ht:P.underlying t = some (.slice e)) (hi:P.info? e = some i) (hz:i.zero = some z)
  (hsize:i.size = size) (hby:i.bytes = bytes) (hzs:z.cells.size = size) (hsz:0 < size)
  (v:Value) (n:Nat) (xs:List Value) (hown:w.ownsRow 0 e size v n xs)
  (A:Option Addr) (m c:Nat) (news:List Value) (hl:news.length = m * size) (hnews:∀ (j:Nat) (u:Value),news[j]? = some u → ∃ a,A = some a ∧ w.cell? (a.add j) = some u) (h1:∀ u ∈ news,u.oneCell' = true)
  (h63:n + m ≤ maxLen) (hbytes:(n + m) * bytes ≤ 140737488355328) :
  ∃ v' w',(Builtin.append_ #[t,t] ty #[v,.slice A m c]).run P w = .ok v' w' ∧ w'.ownsRow 0 e size v' (n + m) (xs ++ news) ∧ w.grownBy w' v.ownBlock ∧ (v'.ownBlock = v.ownBlock ∨ v'.ownBlock = some w.heap.size):=by
 rcases Nat.eq_zero_or_pos m with hm | hm
 ·subst hm
  have hn:news = []:=List.eq_nil_of_length_eq_zero (by rw [hl,Nat.zero_mul])
  subst hn
  exact ⟨v,w,run_append_none w 0 t ty e i size ht hi v n xs hown A c,by simpa using hown,World.grownBy.refl w _,.inl rfl⟩
 ·cases A with
  | none =>
   obtain ⟨u,hu⟩:∃ u,news[0]? = some u:=⟨_,List.getElem?_eq_getElem (by rw [hl]; exact Nat.mul_pos hm hsz)⟩
   obtain ⟨a,ha,_⟩:=hnews 0 u hu
   cases ha
  | some a =>
   obtain ⟨v',w',hr,h2,h3,h4,_⟩:=run_append_own2 (P:=P) w 0 t ty e i z size bytes ht hi hz hsize hby hzs hsz v n xs hown a m c news hl (fun j u hu => by obtain ⟨a',ha,hc⟩:=hnews j u hu; cases ha; exact hc) h1 hm h63 hbytes (Nat.zero_le _)
   exact ⟨v',w',hr,h2,h3,h4⟩

def gview (σ:Sto) (s:Nat):G → Option (List G × Nat)
 | .sl l m => if l.length = m * s then some (l,m) else none
 | .rsl j o m => (sget σ j).bind fun ob => if o + m * s ≤ ob.l.length then some ((ob.l.drop o).take (m * s),m) else none
 | .lit (.slice none 0 _) => some ([],0)
 | _ => none
theorem gview_run {cx:Cx} {st:St} {a:Act} {w:World} {β:Bm} (h:RelB P cx st a w β) {s:Nat} {x:G} {v:Value} {l:List G} {m:Nat} (hx:RV β (Av cx.S0 β st.σ) w x v) (hg:gview st.σ s x = some (l,m)) :
  ∃ A c news,v = .slice A m c ∧ news.length = m * s ∧ Rw β (Av cx.S0 β st.σ) w l news ∧ (∀ (j:Nat) (u:Value),news[j]? = some u → ∃ a,A = some a ∧ w.cell? (a.add j) = some u):=by
 cases x with
 | sl l' m' =>
  simp only [gview] at hg
  split at hg
  ·rename_i hl
   simp at hg
   obtain ⟨rfl,rfl⟩:=hg
   obtain ⟨A,cap,us,rfl,hn,hm,ha,h1,hr⟩:=hx.sl_cells
   have hu:∀ (j:Nat) (u:Value),((List.range l'.length).map us)[j]? = some u → j < l'.length ∧ u = us j:=by
    intro j u hu
    have hlt:=(List.getElem?_eq_some_iff.1 hu).1
    have hlt':j < l'.length:=by simpa using hlt
    rw [List.getElem?_map,List.getElem?_range hlt'] at hu
    simp at hu
    exact ⟨hlt',hu.symm⟩
   refine ⟨A,cap,(List.range l'.length).map us,rfl,by simp [hl],⟨by simp,fun u hu' => ?_,fun i g u hg hu' => ?_⟩,fun j u hu' => ?_⟩
   ·obtain ⟨j,hj⟩:=List.mem_iff_getElem?.1 hu'
    obtain ⟨hlt,rfl⟩:=hu j u hj
    exact h1 j hlt
   ·obtain ⟨hlt,rfl⟩:=hu i u hu'
    exact .imm _ _ (hr i g hg)
   ·obtain ⟨hlt,rfl⟩:=hu j u hu'
    obtain ⟨b,off,rfl,_,_,hc⟩:=ha j hlt
    exact ⟨_,rfl,by rw [add_none]; exact hc⟩
  ·cases hg
 | rsl j o m' =>
  simp only [gview,Option.bind_eq_some_iff] at hg
  obtain ⟨ob,hob,hg⟩:=hg
  split at hg
  ·rename_i hle
   simp at hg
   obtain ⟨rfl,rfl⟩:=hg
   rcases hx.rsl_form with ⟨hb,rfl,rfl⟩ | ⟨b,C,o',cap,hb,rfl,hn,hm,ho,hC⟩
   ·exact ⟨none,0,[],rfl,by simp,⟨by simp,by simp,by simp⟩,by simp⟩
   ·obtain ⟨us,hc⟩:=(h.ob j ob hob).cells hb
    have hl:((ob.l.drop o).take (m' * s)).length = m' * s:=by simp; omega
    have hu:∀ (k:Nat) (u:Value),((List.range (m' * s)).map fun i => us (o + i))[k]? = some u → k < m' * s ∧ u = us (o + k):=by
     intro k u hu
     have hlt:=(List.getElem?_eq_some_iff.1 hu).1
     have hlt':k < m' * s:=by simpa using hlt
     rw [List.getElem?_map,List.getElem?_range hlt'] at hu
     simp at hu
     exact ⟨hlt',hu.symm⟩
    refine ⟨_,cap,(List.range (m' * s)).map fun i => us (o + i),rfl,by simp,⟨by rw [hl]; simp,fun u hu' => ?_,fun i g u hg hu' => ?_⟩,fun k u hu' => ?_⟩
    ·obtain ⟨k,hk⟩:=List.mem_iff_getElem?.1 hu'
     obtain ⟨hlt,rfl⟩:=hu k u hk
     exact hc.2.1 _ (by omega)
    ·obtain ⟨hlt,rfl⟩:=hu i u hu'
     rw [List.getElem?_take,if_pos hlt,List.getElem?_drop] at hg
     exact hc.2.2 _ g hg
    ·obtain ⟨hlt,rfl⟩:=hu k u hu'
     have hpos:0 < m':=by
      rcases Nat.eq_zero_or_pos m' with h0 | h0
      ·rw [h0] at hlt; simp at hlt
      ·exact h0
     have e:=ho (by omega)
     subst e
     have:=hc.1 (o' + k) (by omega)
     rw [Nat.zero_add] at this
     exact ⟨_,rfl,by rw [add_none]; exact this⟩
  ·cases hg
 | lit u =>
  cases u with
  | slice A n c =>
   cases A with
   | none =>
    cases n with
    | zero =>
     simp [gview] at hg
     obtain ⟨rfl,rfl⟩:=hg
     have:=hx.lit_eq
     subst this
     exact ⟨none,c,[],rfl,by simp,⟨by simp,by simp,by simp⟩,by simp⟩
    | succ n => simp [gview] at hg
   | some _ => simp [gview] at hg
  | _ => simp [gview] at hg
 | _ => simp [gview] at hg

def gsrc (σ:Sto) (c:Nat) (e:TypeId) (s:Nat):G → Option (Nat × Nat × List G)
 | .lit (.slice none 0 0) => some (c,0,[])
 | .rsl i 0 n => (sget σ i).bind fun ob => if ob.t = e ∧ ob.l.length = n * s ∧ ob.x.isNone = true then some (i,n,ob.l) else none
 | _ => none

theorem append_core {cx:Cx} {st:St} {a:Act} {w:World} {β:Bm} (h:RelB P cx st a w β) {e:TypeId} {s:Nat} (hs:tsize P e = some s) {gx:G} {vx:Value} (hvx:RV β (Av cx.S0 β st.σ) w gx vx) {i n m:Nat} {l news:List G} {newsV:List Value} (hx:gsrc st.σ st.c e s gx = some (i,n,l))
  (hnl:newsV.length = m * s) (hnr:Rw β (Av cx.S0 β st.σ) w news newsV) {X:Value → World → Prop} (hXd:∀ v' w',X v' w' → w.drawn ≤ w'.drawn) (hX:∀ xs,w.ownsRow 0 e s vx n xs → ∃ v' w',X v' w' ∧ w'.ownsRow 0 e s v' (n + m) (xs ++ newsV) ∧ w.grownBy w' vx.ownBlock ∧ (v'.ownBlock = vx.ownBlock ∨ v'.ownBlock = some w.heap.size)) {d:Option Tmp} (hd:∀ x,d = some x → x < st.n) {pl:Option Nat} (hpl:plOk st pl) :
  ∃ v' w',X v' w' ∧ Rel P cx ({ st with σ:=(plNum st pl,some ⟨e,l ++ news,none⟩) :: (i,none) :: st.σ,c:=plC st pl }.put d (.rsl (plNum st pl) 0 (n + m))) (a.put d v') w':=by
 -- the row appended to
 obtain ⟨xs,hown,hxr,hrow⟩:∃ xs,w.ownsRow 0 e s vx n xs ∧ Rw β (Av cx.S0 β st.σ) w l xs ∧ ∀ b,vx.ownBlock = some b → ∃ ob C,sget st.σ i = some ob ∧ β i = some (some (b,C)):=by
  have hx':=hvx
  unfold gsrc at hx
  split at hx
  ·simp at hx
   obtain ⟨rfl,rfl,rfl⟩:=hx
   rw [hx'.lit_eq]
   exact ⟨[],World.ownsRow_nil w _ _ _,⟨by simp,by simp,by simp⟩,by simp [Value.ownBlock]⟩
  ·rename_i i' n'
   rw [Option.bind_eq_some_iff] at hx
   obtain ⟨ob,hob,hx⟩:=hx
   split at hx
   ·rename_i hc
    obtain ⟨rfl,hol,hxn⟩:=hc
    simp at hx
    obtain ⟨rfl,rfl,rfl⟩:=hx
    rcases hx'.rsl_form with ⟨hb,hv,rfl⟩ | ⟨b,C,o',cap,hb,hv,hn,hm,ho',hC⟩
    ·rw [hv]
     refine ⟨[],World.ownsRow_nil w _ _ _,?_,by simp [Value.ownBlock]⟩
     have:ob.l = []:=List.eq_nil_of_length_eq_zero (by simpa using hol)
     rw [this]
     exact ⟨by simp,by simp,by simp⟩
    ·rw [hv]
     rcases h.ob _ ob hob with ⟨h1,_⟩ | ⟨b',x',o',hx',_⟩ | ⟨b',C',cur,_,h1,h2,h3,h4,h5,h6⟩
     ·rw [h1] at hb; cases hb
     ·rw [hx'] at hxn; cases hxn
     ·rw [h1] at hb; cases hb
      obtain ⟨hcap,ho''⟩:=hC rfl
      subst hcap
      have hcs:cur.size = cap * s:=by rw [h3,tsz_of hs]
      have hns:n' * s ≤ cur.size:=by rw [hcs]; exact Nat.mul_le_mul_right _ hn
      subst ho''
      refine ⟨cur.toList.take (n' * s),⟨by simp; omega,.inr ⟨b,cap,cur,rfl,Nat.zero_le _,h2,hn,hm,hcs,rfl⟩⟩,⟨by simp; omega,fun u hu => ?_,fun j g u hg hu => ?_⟩,fun b' hb' => ?_⟩
      ·obtain ⟨j,hj⟩:=List.mem_iff_getElem?.1 hu
       rw [List.getElem?_take] at hj
       split at hj
       ·obtain ⟨u',hu',h7,_⟩:=h6 j _ (List.getElem?_eq_getElem (by omega))
        rw [Array.getElem?_toList,hu'] at hj
        cases hj; exact h7
       ·cases hj
      ·rw [List.getElem?_take] at hu
       split at hu
       ·obtain ⟨u',hu',_,h8⟩:=h6 j g hg
        rw [Array.getElem?_toList,hu'] at hu
        cases hu; exact h8
       ·cases hu
      ·simp [Value.ownBlock] at hb'
       subst hb'
       exact ⟨ob,cap,hob,h1⟩
   ·cases hx
  ·cases hx
 obtain ⟨v',w',hX',hown',hgr,hblk⟩:=hX xs hown
 refine ⟨v',w',hX',?_⟩
 have hkp:Keeps (fun x' => vx.ownBlock = some x') w w':=⟨hgr.os,hgr.tape,hgr.output,hgr.size,fun k hk hn => hgr.block k hk (fun x => hn x.symm),hXd _ _ hX'⟩
 rcases hown'.2 with ⟨rfl,hnm⟩ | ⟨g,cap,cur,rfl,_,hg,hle,hm,hcs,htake⟩
 ·-- nothing, still
  have hnone:vx.ownBlock = none:=by
   rcases hblk with hb | hb
   ·rw [← hb]; rfl
   ·simp [Value.ownBlock] at hb
  have h0:l ++ news = []:=by
   have e1:=hxr.1; have e2:=hnr.1; have e3:=hown.1
   have a1:n = 0:=by omega
   have a2:m = 0:=by omega
   subst a1; subst a2
   have b1:l.length = 0:=by rw [← e1,e3]; simp
   have b2:news.length = 0:=by rw [← e2,hnl]; simp
   rw [List.eq_nil_of_length_eq_zero b1,List.eq_nil_of_length_eq_zero b2]; rfl
  have hw:=h.world (hkp.mono fun b _ hb => by rw [hnone] at hb; cases hb)
  have h00:n + m = 0:=hnm
  rw [h0,h00]
  cases pl with
  | none =>
   have hv:=(hw.kill i).virt e (k:=st.c) (Nat.le_refl _)
   exact ⟨_,hv.put d hd (.rsl0 _ _ (by simp [plNum]))⟩
  | some k =>
   obtain ⟨_,ob0,hr0,hx1⟩:=hpl
   have hk0:β k = some none:=by
    rcases h.ob k ob0 hr0 with ⟨h1,_⟩ | ⟨b,x,o,h1,_,_,_,h5⟩ | ⟨b,C,cur,h1,_⟩
    ·exact h1
    ·rw [hx1] at h1; cases h1; exact h5.elim
    ·rw [hx1] at h1; cases h1
   have hik:i ≠ k:=by
    intro e
    unfold gsrc at hx
    split at hx
    ·cases hx
     have:=h.fresh st.c (Nat.le_refl _)
     rw [e,hk0] at this; cases this
    ·rw [Option.bind_eq_some_iff] at hx
     obtain ⟨ob,hob,hx⟩:=hx
     split at hx
     ·rename_i hc
      cases hx
      rw [e,hr0] at hob
      cases hob
      rw [hx1] at hc
      exact absurd hc.2.2 (by simp)
     ·cases hx
    ·cases hx
   have hv:=(hw.kill i).matV e (k:=k) (ob0:=ob0) (by
    show sget ((i,none) :: st.σ) k = _
    rw [sget_cons,if_neg hik]; exact hr0) hx1
   exact ⟨_,hv.put d hd (.rsl0 _ _ (by rw [show plNum st (some k) = k from rfl,hk0]; simp))⟩
 ·have hgb:vx.ownBlock = some g ∨ w.heap.size ≤ g:=by
   rcases hblk with hb | hb
   ·left; rw [← hb]; rfl
   ·right; simp [Value.ownBlock] at hb; omega
  have hlen:(l ++ news).length ≤ cur.size:=by
   have e1:=hxr.1; have e2:=hnr.1; have e3:=hown.1
   rw [List.length_append,← e1,← e2,e3,hnl,← Nat.add_mul,hcs]
   exact Nat.mul_le_mul_right _ hle
  have hw:=h.regrowP (hpl:=hpl) hrow hkp (b:=g) (C:=cap) (cur:=cur) (ob:=⟨e,l ++ news,none⟩) hgb hg (by rw [tsz_of hs]; exact hcs) hm hlen rfl (fun j g' hg' => by
   have hlt:j < (l ++ news).length:=(List.getElem?_eq_some_iff.1 hg').1
   have hltc:j < cur.size:=Nat.lt_of_lt_of_le hlt hlen
   have e1:=hxr.1; have e2:=hnr.1; have e3:=hown.1
   have hcu:cur[j]? = (xs ++ newsV)[j]?:=by
    rw [← htake,List.getElem?_take,if_pos,Array.getElem?_toList]
    have:(l ++ news).length = (n + m) * s:=by rw [List.length_append,← e1,← e2,e3,hnl,Nat.add_mul]
    omega
   rw [hcu]
   by_cases hj:j < l.length
   ·have hg'':l[j]? = some g':=by simpa [List.getElem?_append_left hj] using hg'
    have hxj:xs[j]? = some (xs[j]'(by omega)):=by simp [show j < xs.length by omega]
    refine ⟨_,by rw [List.getElem?_append_left (by omega)]; exact hxj,hxr.2.1 _ (List.mem_of_getElem? hxj),hxr.2.2 j g' _ hg'' hxj⟩
   ·have hg'':news[j - l.length]? = some g':=by simpa [List.getElem?_append_right (Nat.le_of_not_lt hj)] using hg'
    have hlt2:=(List.getElem?_eq_some_iff.1 hg'').1
    have hxj:newsV[j - l.length]? = some (newsV[j - l.length]'(by omega)):=by simp [show j - l.length < newsV.length by omega]
    refine ⟨_,by rw [List.getElem?_append_right (by omega),e1]; exact hxj,hnr.2.1 _ (List.mem_of_getElem? hxj),hnr.2.2 _ g' _ hg'' hxj⟩)
  exact ⟨_,hw.put d hd (.rsl _ _ _ _ _ _ _ (by simp) hle hm (fun _ => rfl) (fun _ => ⟨rfl,rfl⟩))⟩
theorem gs_appendP {pl:Option Nat} {o:Oper} {st:St} {t e:TypeId} {s bytes:Nat} {x y:Operand} {zs:List Value} {i n m:Nat} {l news:List G} (ho:o.op = .call { callee:=.builtin .append,args:=#[x,y],argTypes:=#[t,t] }) (hd:∀ d,o.dst = some d → d < st.n)
  (he:telem P t = some e) (hs:tsize P e = some s) (hs0:0 < s) (hz:tzero P e = some zs) (hzl:zs.length = s) (hby:(P.info? e).map (·.bytes) = some bytes)
  (hx:gsrc st.σ st.c e s (gev st x) = some (i,n,l)) (hy:gview st.σ s (gev st y) = some (news,m)) (h63:n + m ≤ maxLen) (hbytes:(n + m) * bytes ≤ 140737488355328) (hpl:plOk st pl) :
  GS P o st ({ st with σ:=(plNum st pl,some ⟨e,l ++ news,none⟩) :: (i,none) :: st.σ,c:=plC st pl }.put o.dst (.rsl (plNum st pl) 0 (n + m))):=by
 intro cx a w K R ⟨β,h⟩ hK
 obtain ⟨ti,z,hi,hz',hzs,h1z⟩:=tzero_spec hz
 have ht:=telem_spec he
 have hsize:ti.size = s:=by simp [tsize,hi] at hs; exact hs
 have hbytes':ti.bytes = bytes:=by rw [hi] at hby; simpa using hby
 have hzc:z.cells.size = s:=by rw [← hzl,← hzs]; simp
 obtain ⟨A,c,newsV,hyv,hnl,hnr,hnc⟩:=gview_run h (h.ev y) hy
 obtain ⟨v',w',hrun,hrel⟩:=append_core h hs (h.ev x) hx hnl hnr (X:=fun v' w' => (execOp a.eval o).run P w = .ok (.value v') w') (fun v' w' hr => sem_drawn _ _ _ _ _ hr) (fun xs hown => by
  obtain ⟨v',w',hrun',h2,h3,h4⟩:=run_append_any (P:=P) w t o.type e ti z s bytes ht hi hz' hsize hbytes' hzc hs0 (a.eval x) n xs hown A m c newsV hnl hnc hnr.2.1 h63 hbytes
  refine ⟨v',w',?_,h2,h3,h4⟩
  unfold execOp
  simp only [ho,resolve,invoke,builtin,Sem.run_bind,Sem.run_pure,Result.andThen_ok,List.map_toArray,List.map_cons,List.map_nil,hyv,hrun']) hd hpl
 refine h.loose.oper (fun c hc => by rw [ho] at hc; cases hc) ?_
 unfold Oper.wp
 rw [hrun]
 exact hK _ _ hrel
end
end
section
open Go.RowKit
section
variable {P:Program}

def Gls (gl:List (Nat × List G)) (S:Nat → Prop) (w:World):Prop:=∀ g l,gl.lookup g = some l → IV S w (.ptr l 0) (.pointer (some ⟨g,0,none⟩))
def Fn' (P:Program) (gl:List (Nat × List G)) (f:FuncId) (gs:List G) (r:G):Prop :=
 ∀ (w:World) (S:Nat → Prop) (vs:Array Value),(∀ b,S b → b < w.heap.size) → Gls gl S w → vs.size = gs.length → (∀ (i:Nat) (g:G) (u:Value),gs[i]? = some g → vs[i]? = some u → IV S w g u) →
  Calls P f vs w fun e w' => ∃ v,e = .returned v ∧ IV S w' r v ∧ Keeps (fun _ => False) w w'

def ImmG (g:G):Prop:=∀ β S w v,RV β S w g v → IV S w g v
theorem imm_lit (v:Value):ImmG (.lit v):=fun β S w u h => by rw [h.lit_eq]; exact .lit v
theorem imm_sl (l:List G) (n:Nat):ImmG (.sl l n):=fun β S w u h => by
 cases h with
 | imm _ _ h => exact h
theorem imm_ptr (l:List G) (o:Nat):ImmG (.ptr l o):=fun β S w u h => by
 cases h with
 | imm _ _ h => exact h
theorem imm_agg {l:List G} (hl:∀ g ∈ l,ImmG g):ImmG (.agg l):=fun β S w u h => by
 obtain ⟨us,rfl,h2,h1,hr⟩:=h.agg_form
 exact .agg _ _ h2 h1 fun i g u hg hu => hl g (List.mem_of_getElem? hg) _ _ _ _ (hr i g u hg hu)
theorem imm_tup {l:List G} (hl:∀ g ∈ l,ImmG g):ImmG (.tup l):=fun β S w u h => by
 obtain ⟨us,rfl,h2,hr⟩:=h.tup_form
 exact .tup _ _ h2 fun i g u hg hu => hl g (List.mem_of_getElem? hg) _ _ _ _ (hr i g u hg hu)
theorem imm_clo {fn:Fn} {a b:List G} (ha:∀ g ∈ a,ImmG g) (hb:∀ g ∈ b,ImmG g):ImmG (.clo fn a b):=fun β S w u h => by
 obtain ⟨fs,cs,rfl,h1,h2,h3,h4⟩:=h.clo_form
 exact .clo _ _ _ _ _ h1 h2 (fun i g u hg hu => ha g (List.mem_of_getElem? hg) _ _ _ _ (h3 i g u hg hu)) (fun i g u hg hu => hb g (List.mem_of_getElem? hg) _ _ _ _ (h4 i g u hg hu))

def Frz (P:Program) (st:St) (g g':G):Prop:=∀ cx a w β,RelB P cx st a w β → ∀ v,RV β (Av cx.S0 β st.σ) w g v → IV cx.S0 w g' v
theorem frz_imm {st:St} {g:G} (h:ImmG g):Frz P st g g:=fun cx a w β _ v hv => (h _ _ _ _ hv).sub fun _ _ x => .inl x
theorem frz_agg {st:St} {l l':List G} (hl:l'.length = l.length) (h:∀ (i:Nat) (g g':G),l[i]? = some g → l'[i]? = some g' → Frz P st g g'):Frz P st (.agg l) (.agg l'):=fun cx a w β r v hv => by
 obtain ⟨us,rfl,h2,h1,hr⟩:=hv.agg_form
 refine .agg _ _ (by omega) h1 fun i g u hg hu => ?_
 have hlt:=(List.getElem?_eq_some_iff.1 hg).1
 have hx:l[i]? = some (l[i]'(by omega)):=by simp [show i < l.length by omega]
 exact h i _ g hx hg cx a w β r u (hr i _ u hx hu)
theorem frz_tup {st:St} {l l':List G} (hl:l'.length = l.length) (h:∀ (i:Nat) (g g':G),l[i]? = some g → l'[i]? = some g' → Frz P st g g'):Frz P st (.tup l) (.tup l'):=fun cx a w β r v hv => by
 obtain ⟨us,rfl,h2,hr⟩:=hv.tup_form
 refine .tup _ _ (by omega) fun i g u hg hu => ?_
 have hlt:=(List.getElem?_eq_some_iff.1 hg).1
 have hx:l[i]? = some (l[i]'(by omega)):=by simp [show i < l.length by omega]
 exact h i _ g hx hg cx a w β r u (hr i _ u hx hu)
theorem frz_rsl {st:St} {i o n s:Nat} {ob:Ob} {l:List G} (ho:sget st.σ i = some ob) (hs:tsize P ob.t = some s) (hle:o + n * s ≤ ob.l.length) (hl:l.length = n * s) (h:∀ (j:Nat) (g g':G),ob.l[o + j]? = some g → l[j]? = some g' → Frz P st g g'):Frz P st (.rsl i o n) (.sl l n):=fun cx a w β r v hv => by
 rcases hv.rsl_form with ⟨hb,rfl,rfl⟩ | ⟨b,C,o',cap,hb,rfl,hn,hm,ho',hC⟩
 ·have:l = []:=List.eq_nil_of_length_eq_zero (by simpa using hl)
  subst this
  exact .sl [] 0 none 0 (fun _ => undef) (Nat.le_refl _) (Nat.zero_le _) (by simp) (by simp) (by simp)
 ·obtain ⟨us,hc⟩:=(r.ob i ob ho).cells hb
  refine .sl l n _ cap (fun j => us (o + j)) hn hm (fun j hj => ?_) (fun j hj => hc.2.1 _ (by omega)) (fun j g' hg' => ?_)
  ·have hpos:0 < n:=by
    rcases Nat.eq_zero_or_pos n with h0 | h0
    ·rw [h0,Nat.zero_mul] at hl; omega
    ·exact h0
   have e:=ho' (by omega)
   subst e
   have:=hc.1 (o' + j) (by omega)
   rw [Nat.zero_add] at this
   exact ⟨b,o',rfl,r.sep i ob b C ho hb,r.lt ho hb,this⟩
  ·have hlt:=(List.getElem?_eq_some_iff.1 hg').1
   have hx:ob.l[o + j]? = some (ob.l[o + j]'(by omega)):=by simp [show o + j < ob.l.length by omega]
   exact h j _ g' hx hg' cx a w β r _ (hc.2.2 _ _ hx)
theorem frz_ref {st:St} {i o:Nat} {ob:Ob} {l:List G} (ho:sget st.σ i = some ob) (hl:l.length ≤ ob.l.length) (h:∀ (j:Nat) (g g':G),ob.l[j]? = some g → l[j]? = some g' → Frz P st g g'):Frz P st (.ref i o) (.ptr l o):=fun cx a w β r v hv => by
 obtain ⟨b,C,hb,rfl⟩:=hv.ref_addr
 obtain ⟨us,hc⟩:=(r.ob i ob ho).cells hb
 have:=IV.ptr (S:=cx.S0) (w:=w) l o b 0 us (r.sep i ob b C ho hb) (r.lt ho hb) (fun j hj => hc.1 j (by omega)) (fun j hj => hc.2.1 j (by omega)) (fun j g' hg' => by
  have hlt:=(List.getElem?_eq_some_iff.1 hg').1
  have hx:ob.l[j]? = some (ob.l[j]'(by omega)):=by simp [show j < ob.l.length by omega]
  exact h j _ g' hx hg' cx a w β r _ (hc.2.2 _ _ hx))
 simpa using this
def gres (P:Program) (st:St):ResultVar → Option G
 | .tmp t => some (fget st.fr t)
 | .cell a t => gload P st.σ t (fget st.fr a)
def enterFr:Nat → List G → Fr
 | _,[] => []
 | k,g :: r => (k,g) :: enterFr (k + 1) r
theorem fget_enter:∀ (gs:List G) (k i:Nat),fget (enterFr k gs) i = if k ≤ i then (gs[i - k]?).getD .junk else .junk
 | [],k,i => by simp [enterFr,fget]
 | g :: r,k,i => by
  rw [enterFr,fget_cons,fget_enter r (k + 1) i]
  by_cases h:k = i
  ·subst h; simp
  ·rw [if_neg h]
   by_cases h2:k + 1 ≤ i
   ·rw [if_pos h2,if_pos (by omega)]
    have:i - k = (i - (k + 1)) + 1:=by omega
    rw [this,List.getElem?_cons_succ]
   ·rw [if_neg h2,if_neg (by omega)]
def St.enter (fn:Func) (gl:List (Nat × List G)) (gs:List G):St:=⟨fn.ntmps,gl,enterFr 0 gs,[],0,0,false⟩
def gtup:List G → G
 | [g] => g
 | gs => .tup gs
def Ended (P:Program) (fn:Func) (r:G) (e:Exit) (st:St):Prop:=(e = .normal ∨ e = .ret) ∧ ∃ gs,fn.results.toList.mapM (gres P st) = some gs ∧ Frz P st (gtup gs) r

theorem gres_run {cx:Cx} {st:St} {a:Act} {w:World} {β:Bm} (h:RelB P cx st a w β):∀ (rs:List ResultVar) (gs:List G),rs.mapM (gres P st) = some gs →
  ∃ vs,(rs.mapM fun (x:ResultVar) => (match x with | .tmp t => pure (a.tmps.getD t undef) | .cell b t => do loadVar t (← asAddr (a.tmps.getD b undef)):Sem Value)).run P w = .ok vs w ∧ vs.length = gs.length ∧ ∀ (i:Nat) (g:G) (u:Value),gs[i]? = some g → vs[i]? = some u → RV β (Av cx.S0 β st.σ) w g u
 | [],gs,hm => by simp at hm; subst hm; exact ⟨[],by simp,rfl,by simp⟩
 | r :: rs,gs,hm => by
  simp only [List.mapM_cons,Option.bind_eq_bind,Option.bind_eq_some_iff,Option.pure_def,Option.some.injEq] at hm
  obtain ⟨g,hg,gs',hgs,rfl⟩:=hm
  obtain ⟨vs,hv,hl,hr⟩:=gres_run h rs gs' hgs
  obtain ⟨v,hv1,hr1⟩:∃ v,((match r with | .tmp t => pure (a.tmps.getD t undef) | .cell b t => do loadVar t (← asAddr (a.tmps.getD b undef)):Sem Value)).run P w = .ok v w ∧ RV β (Av cx.S0 β st.σ) w g v:=by
   cases r with
   | tmp t => simp [gres] at hg; subst hg; exact ⟨_,by simp,h.fr t⟩
   | cell b t =>
    simp only [gres] at hg
    obtain ⟨u,hu,hr⟩:=gload_run h (h.fr b) hg
    refine ⟨u,?_,hr⟩
    simp only [Instr.loadAt,Sem.run_bind] at hu ⊢
    cases hx:a.tmps.getD b undef with
    | pointer p =>
     cases p with
     | none => rw [hx] at hu; simp [Instr.sureAddr,stuck] at hu
     | some p => rw [hx] at hu; simpa [Instr.sureAddr,asAddr] using hu
    | _ => rw [hx] at hu; simp [Instr.sureAddr,stuck] at hu
  refine ⟨v :: vs,?_,by simp [hl],fun i g' u hg' hu => ?_⟩
  ·simp only [List.mapM_cons,Sem.run_bind,hv1,Result.andThen_ok,hv,Sem.run_pure]
  ·cases i with
   | zero => simp at hg' hu; subst hg'; subst hu; exact hr1
   | succ i => exact hr i g' u (by simpa using hg') (by simpa using hu)

theorem fn_enter {gl:List (Nat × List G)} {f:FuncId} {fn:Func} {c:Code} {gs:List G} {r:G} (hf:P.funcs[f]? = some fn) (hb:fn.body = some c) (hn:gs.length ≤ fn.ntmps) (h:Tr P c (St.enter fn gl gs) (Ended P fn r)):Fn' P gl f gs r:=by
 intro w S vs hS hG hsz hvs
 refine calls_tr (cx:=⟨w,fun _ => False,S,fun _ => none,Fence.wide,9⟩) hf hb h rfl rfl ⟨fun _ => none,?_⟩ ?_
 ·have hav:∀ b,Av S (fun _ => none) [] b → S b:=by
   rintro b (hx | ⟨i,ob,C,ho,_⟩)
   ·exact hx
   ·cases ho
  exact {
   size:=by simp [St.enter,hsz]; omega
   defers:=.nil rfl
   loose:=loose_wide
   rnd:=fun _ => rfl
   fr:=fun i => by
    show RV _ _ w (fget (enterFr 0 gs) i) _
    rw [fget_enter]
    simp only [Nat.zero_le,if_true,Nat.sub_zero]
    cases hg:gs[i]? with
    | none => exact .junk _
    | some g =>
     have hlt:=(List.getElem?_eq_some_iff.1 hg).1
     have hu:vs[i]? = some (vs[i]'(by omega)):=by simp [show i < vs.size by omega]
     refine .imm _ _ (IV.sub (S:=S) ?_ (fun b _ => hav b))
     have e:(vs ++ Array.replicate (fn.ntmps - vs.size) undef).getD i undef = vs[i]'(by omega):=by
      rw [Array.getD_eq_getD_getElem?,Array.getElem?_append_left (by omega),hu]; rfl
     rw [e]
     exact hvs i g _ hg hu
   ob:=fun i o ho => by cases ho
   inj:=fun i j o o' b C D hi => by cases hi
   own:=fun i o b C hi => by cases hi
   sep:=fun i o b C hi => by cases hi
   fresh:=fun _ _ => rfl
   glob:=fun g l hl => (hG g l hl).sub (fun b _ => hav b)
   keep:=Keeps.refl _ _
   old:=hS
   pin:=fun i x hx => by cases hx }
 ·rintro e st' a' w' ⟨he,gs',hgs,hfrz⟩ ⟨β,hr⟩
  obtain ⟨us,hus,hl,hru⟩:=gres_run hr _ _ hgs
  have hres:(results fn a'.tmps).run P w' = .ok (if h:us.toArray.size = 1 then us.toArray[0] else .tuple us.toArray) w':=by
   unfold results
   rw [Array.mapM_eq_mapM_toList]
   simp only [Sem.run_bind,Sem.run_map]
   erw [hus]
   rfl
  have hv:RV β (Av S β st'.σ) w' (gtup gs') (if h:us.toArray.size = 1 then us.toArray[0] else .tuple us.toArray):=by
   match gs',us,hl,hru with
   | [],[],_,_ => exact .tup _ _ rfl (by simp)
   | [g],[u],_,hru => exact hru 0 g u rfl rfl
   | g :: g' :: gr,u :: u' :: ur,hl,hru => exact .tup _ _ (by simpa using hl) (fun i x y hx hy => hru i x y hx (by simpa using hy))
  exact ⟨he,_,hres,_,rfl,hfrz _ _ _ β hr _ hv,hr.keep⟩

theorem ended_r {fn:Func} {r:G} {st:St} {t:Tmp} (h:fn.results = #[.tmp t]) (hf:Frz P st (fget st.fr t) r):Ended P fn r .ret st:=⟨.inr rfl,[fget st.fr t],by rw [h]; rfl,hf⟩
theorem ended_r2 {fn:Func} {r:G} {st:St} {t u:Tmp} (h:fn.results = #[.tmp t,.tmp u]) (hf:Frz P st (.tup [fget st.fr t,fget st.fr u]) r):Ended P fn r .ret st:=⟨.inr rfl,[fget st.fr t,fget st.fr u],by rw [h]; rfl,hf⟩
attribute [irreducible] Ended

def callable (P:Program) (f:FuncId):Bool:=match P.funcs[f]? with
 | some fn => fn.body.isSome && !(fn.name == "runtime.NumGoroutine")
 | none => false
theorem run_callFunc {f:FuncId} (h:callable P f = true) (args:Array Value) (w:World):(callFunc f args).run P w = .ok (.enter f args) w:=by
 unfold callable at h
 split at h
 ·rename_i fn hf
  simp only [Bool.and_eq_true,Bool.not_eq_true'] at h
  obtain ⟨h1,h2⟩:=h
  obtain ⟨c,hc⟩:=Option.isSome_iff_exists.1 h1
  have h3:¬ fn.name = "runtime.NumGoroutine" := by simpa using h2
  unfold callFunc
  simp [program,Sem.run,hf,h3,hc]
 ·cases h
theorem run_call {o:Oper} {st:St} {cx:Cx} {a:Act} {w:World} {β:Bm} (h:RelB P cx st a w β) {f:Operand} {xs:Array Operand} {ats:Array TypeId} {fid:FuncId} {fst cap:List G} (ho:o.op = .call { callee:=.value f,args:=xs,argTypes:=ats }) (hf:gev st f = .clo (.func fid) fst cap) (hc:callable P fid = true) :
  ∃ vs:Array Value,(execOp a.eval o).run P w = .ok (.enter fid vs) w ∧ vs.size = (fst ++ xs.toList.map (gev st) ++ cap).length ∧ ∀ (i:Nat) (g:G) (u:Value),(fst ++ xs.toList.map (gev st) ++ cap)[i]? = some g → vs[i]? = some u → RV β (Av cx.S0 β st.σ) w g u:=by
 have hx:=h.ev f
 rw [hf] at hx
 obtain ⟨fs,cs,hv,h1,h2,h3,h4⟩:=hx.clo_form
 refine ⟨fs ++ xs.map a.eval ++ cs,?_,by simp [h1,h2],fun i g u hg hu => ?_⟩
 ·unfold execOp
  simp [ho,resolve,hv,Deferred.ofValue,invoke,run_callFunc hc]
 ·by_cases c1:i < fst.length
  ·rw [List.append_assoc,List.getElem?_append_left c1] at hg
   rw [Array.append_assoc,Array.getElem?_append_left (by omega)] at hu
   exact h3 i g u hg hu
  ·by_cases c2:i < fst.length + xs.size
   ·rw [List.append_assoc,List.getElem?_append_right (by omega),List.getElem?_append_left (by simp; omega),List.getElem?_map] at hg
    rw [Array.append_assoc,Array.getElem?_append_right (by omega),Array.getElem?_append_left (by simp; omega),Array.getElem?_map,h1] at hu
    rw [Array.getElem?_toList] at hg
    cases hxi:xs[i - fst.length]? with
    | none => rw [hxi] at hg; cases hg
    | some x =>
     rw [hxi] at hg hu
     simp at hg hu
     subst hg; subst hu
     exact h.ev x
   ·rw [List.getElem?_append_right (by simp; omega)] at hg
    rw [Array.getElem?_append_right (by simp; omega)] at hu
    refine h4 (i - (fst.length + xs.size)) g u ?_ ?_
    ·rw [← hg]; congr 1; simp
    ·rw [← hu]; congr 1; simp [h1]

theorem gs_call {o:Oper} {st:St} {f:Operand} {xs:Array Operand} {ats:Array TypeId} {fid:FuncId} {fst cap:List G} {r:G} (ho:o.op = .call { callee:=.value f,args:=xs,argTypes:=ats }) (hd:∀ d,o.dst = some d → d < st.n) (hf:gev st f = .clo (.func fid) fst cap) (hc:callable P fid = true)
  (hi:∀ g ∈ fst ++ xs.toList.map (gev st) ++ cap,ImmG g) (hF:Fn' P st.gl fid (fst ++ xs.toList.map (gev st) ++ cap) r):GS P o st (st.put o.dst r):=by
 intro cx a w K R ⟨β,h⟩ hK
 obtain ⟨vs,hrun,hsz,hr⟩:=run_call h ho hf hc
 refine h.loose.oper (fun c hc => by rw [ho] at hc; cases hc) ?_
 unfold Oper.wp
 rw [hrun]
 refine (hF w (Av cx.S0 β st.σ) vs (fun b hb => ?_) h.glob hsz (fun i g u hg hu => hi g (List.mem_of_getElem? hg) _ _ _ _ (hr i g u hg hu))).mono ?_
 ·rcases hb with hb | ⟨i,ob,C,h1,h2⟩
  ·exact h.keep.lt (h.old b hb)
  ·exact h.lt h1 h2
 ·rintro e w' ⟨v,rfl,hv,hk⟩
  exact hK _ _ ⟨β,(h.world hk).put o.dst hd (.imm _ _ hv)⟩
def Flat (g:G):Prop:=∀ S S' w w' v,IV S w g v → IV S' w' g v
theorem flat_lit (v:Value):Flat (.lit v):=fun S S' w w' u h => by cases h; exact .lit v
theorem flat_agg {l:List G} (hl:∀ g ∈ l,Flat g):Flat (.agg l):=fun S S' w w' u h => by
 cases h with
 | agg _ us hl' h1 h => exact .agg _ us hl' h1 fun i g u hg hu => hl g (List.mem_of_getElem? hg) _ _ _ _ _ (h i g u hg hu)
theorem flat_tup {l:List G} (hl:∀ g ∈ l,Flat g):Flat (.tup l):=fun S S' w w' u h => by
 cases h with
 | tup _ us hl' h => exact .tup _ us hl' fun i g u hg hu => hl g (List.mem_of_getElem? hg) _ _ _ _ _ (h i g u hg hu)
theorem gs_lend {o:Oper} {st:St} {f:Operand} {xs:Array Operand} {ats:Array TypeId} {fid:FuncId} {fst cap gs:List G} {r:G} (ho:o.op = .call { callee:=.value f,args:=xs,argTypes:=ats }) (hd:∀ d,o.dst = some d → d < st.n) (hf:gev st f = .clo (.func fid) fst cap) (hc:callable P fid = true)
  (hl:gs.length = (fst ++ xs.toList.map (gev st) ++ cap).length) (hi:∀ (i:Nat) (g g':G),(fst ++ xs.toList.map (gev st) ++ cap)[i]? = some g → gs[i]? = some g' → Frz P st g g') (hF:Fn' P st.gl fid gs r) (hr:Flat r):GS P o st (st.put o.dst r):=by
 intro cx a w K R ⟨β,h⟩ hK
 obtain ⟨vs,hrun,hsz,hv⟩:=run_call h ho hf hc
 refine h.loose.oper (fun c hc => by rw [ho] at hc; cases hc) ?_
 unfold Oper.wp
 rw [hrun]
 refine (hF w cx.S0 vs (fun b hb => h.keep.lt (h.old b hb)) (fun g l hl => (h.glob g l hl).sub fun _ _ x => .inl x) (by omega) (fun i g u hg hu => ?_)).mono ?_
 ·have hlt:=(List.getElem?_eq_some_iff.1 hg).1
  have hx:(fst ++ xs.toList.map (gev st) ++ cap)[i]? = some ((fst ++ xs.toList.map (gev st) ++ cap)[i]'(by omega)):=by rw [List.getElem?_eq_getElem]
  exact hi i _ g hx hg cx a w β h u (hv i _ u hx hu)
 ·rintro e w' ⟨v,rfl,hv,hk⟩
  exact hK _ _ ⟨β,(h.world hk).put o.dst hd (.imm _ _ (hr _ _ _ _ _ hv))⟩
end
end
end Go.Proofs.YtpehhhbmobmedaaGreatDoor
