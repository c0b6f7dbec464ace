/- A machine of values over the model, eleventh part: states that say less: numbers of objects changed, objects forgotten, slots dropped. -/
import Derived.Test.YtpehhhbmobmedaaGreatDoorGJ
import Derived.Orders
namespace Go.Proofs.YtpehhhbmobmedaaGreatDoor
set_option linter.unusedVariables false
set_option linter.unusedSimpArgs false
set_option linter.unusedSectionVars false
section
open Go.RowKit
section
variable {P:Program}

def rho (ρ:List (Nat × Nat)) (i:Nat):Option Nat:=ρ.lookup i
def Wk (P:Program) (st:St) (ρ:List (Nat × Nat)) (g g':G):Prop:=∀ cx a w β,RelB P cx st a w β → ∀ v,RV β (Av cx.S0 β st.σ) w g v →
 RV (fun i => (rho ρ i).bind β) (fun b => cx.S0 b ∨ ∃ i j ob C,rho ρ i = some j ∧ sget st.σ j = some ob ∧ β j = some (some (b,C))) w g' v

theorem wk_junk {st:St} {ρ:List (Nat × Nat)} {g:G}:Wk P st ρ g .junk:=fun _ _ _ _ _ v _ => .junk v
theorem wk_imm {st:St} {ρ:List (Nat × Nat)} {g:G} (h:ImmG g):Wk P st ρ g g:=fun cx a w β r v hv => .imm _ _ ((h _ _ _ _ hv).sub fun b _ hb => by
 rcases hb with hb | ⟨i,j,ob,C,_,h1,h2⟩
 ·exact .inl hb
 ·exact .inr ⟨j,ob,C,h1,h2⟩)
theorem wk_ref {st:St} {ρ:List (Nat × Nat)} {i j o:Nat} (h:rho ρ i = some j):Wk P st ρ (.ref j o) (.ref i o):=fun cx a w β r v hv => by
 obtain ⟨b,C,hb,rfl⟩:=hv.ref_addr
 exact .ref i o b C (by simp [h,hb])
theorem wk_mref {st:St} {ρ:List (Nat × Nat)} {i j:Nat} (h:rho ρ i = some j):Wk P st ρ (.mref j) (.mref i):=fun cx a w β r v hv => by
 obtain ⟨b,C,hb,rfl⟩:=hv.mref_form
 exact .mref i b C (by simp [h,hb])
theorem wk_yld {st:St} {ρ:List (Nat × Nat)} {i j:Nat} (h:rho ρ i = some j):Wk P st ρ (.yld j) (.yld i):=fun cx a w β r v hv => by
 obtain ⟨b,C,hb,rfl⟩:=hv.yld_form
 exact .yld i b C (by simp [h,hb])
theorem wk_rsl {st:St} {ρ:List (Nat × Nat)} {i j o n:Nat} (h:rho ρ i = some j):Wk P st ρ (.rsl j o n) (.rsl i o n):=fun cx a w β r v hv => by
 rcases hv.rsl_form with ⟨hb,rfl,rfl⟩ | ⟨b,C,o',cap,hb,rfl,hn,hm,ho',hC⟩
 ·exact .rsl0 i o (by simp [h,hb])
 ·exact .rsl i o n b C o' cap (by simp [h,hb]) hn hm ho' hC
def WkFr (P:Program) (st:St) (ρ:List (Nat × Nat)) (fr:Fr):Prop:=∀ d,Wk P st ρ (fget st.fr d) (fget fr d)
theorem wkfr_nil {st:St} {ρ:List (Nat × Nat)}:WkFr P st ρ []:=fun d => wk_junk
theorem wkfr_cons {st:St} {ρ:List (Nat × Nat)} {d:Nat} {g:G} {fr:Fr} (h:Wk P st ρ (fget st.fr d) g) (hr:WkFr P st ρ fr):WkFr P st ρ ((d,g) :: fr):=fun i => by
 rw [fget_cons]
 split
 ·subst_vars; exact h
 ·exact hr i
def WkX (P:Program) (st:St) (ρ:List (Nat × Nat)) (x x':Xob):Prop:=∀ cx a w β,RelB P cx st a w β → ∀ o,XO β (Av cx.S0 β st.σ) w x o →
 XO (fun i => (rho ρ i).bind β) (fun b => cx.S0 b ∨ ∃ i j ob C,rho ρ i = some j ∧ sget st.σ j = some ob ∧ β j = some (some (b,C))) w x' o
def WkOx (P:Program) (st:St) (ρ:List (Nat × Nat)):Option Xob → Option Xob → Prop
 | none,none => True
 | some x,some x' => WkX P st ρ x x' ∧ (x = .resv → x' = .resv)
 | _,_ => False
theorem wkx_map {st:St} {ρ:List (Nat × Nat)} {es es':List (Value × G × Nat)} {clock:Nat} (hl:es'.length = es.length) (h:∀ (j:Nat) (k k':Value) (g g':G) (n n':Nat),es[j]? = some (k,g,n) → es'[j]? = some (k',g',n') → k' = k ∧ n' = n ∧ Wk P st ρ g g'):WkX P st ρ (.map es clock) (.map es' clock):=fun cx a w β r o ho => by
 obtain ⟨ents,h1,h2,h3⟩:=ho
 refine ⟨ents,h1,by omega,fun j k g n hj => ?_⟩
 have hlt:=(List.getElem?_eq_some_iff.1 hj).1
 obtain ⟨⟨k0,g0,n0⟩,hx⟩:∃ q,es[j]? = some q:=⟨_,List.getElem?_eq_getElem (by omega)⟩
 obtain ⟨e,e1,e2,e3,e4⟩:=h3 j k0 g0 n0 hx
 obtain ⟨rfl,rfl,hw⟩:=h j k0 k g0 g n0 n hx hj
 exact ⟨e,e1,e2,e3,hw cx a w β r _ e4⟩
theorem wkx_iter {st:St} {ρ:List (Nat × Nat)} {i j since last:Nat} {seen:List Nat} (h:rho ρ i = some j):WkX P st ρ (.iter (some j) since seen last) (.iter (some i) since seen last):=fun cx a w β r o ho => by
 obtain ⟨mb,h1,h2⟩:=ho
 rcases h2 with ⟨h2,_⟩ | ⟨j',b,C,h3,h4,h5⟩
 ·cases h2
 ·cases h3
  exact ⟨mb,h1,.inr ⟨i,b,C,rfl,h4,by simp [h,h5]⟩⟩
theorem wkx_loop {st:St} {ρ:List (Nat × Nat)} {s:LoopState} {pe:Option Code} {n:Nat} {fr fr':Fr} {ps:Array Tmp} {as bd:Code} (h:∀ d,Wk P st ρ (fget fr d) (fget fr' d)):WkX P st ρ (.loop s pe n fr ps as bd) (.loop s pe n fr' ps as bd):=fun cx a w β r o ho => by
 obtain ⟨fn,tmps,D,h1,h2,h3⟩:=ho
 exact ⟨fn,tmps,D,h1,h2,fun j => h j cx a w β r _ (h3 j)⟩
def WkSt (P:Program) (st:St) (ρ:List (Nat × Nat)) (σ:Sto):Prop:=∀ i ob',sget σ i = some ob' → ∃ j ob,rho ρ i = some j ∧ sget st.σ j = some ob ∧ ob'.t = ob.t ∧ ob'.l.length ≤ ob.l.length ∧ (ob.l = [] → ob'.l = []) ∧ (∀ (k:Nat) (g g':G),ob.l[k]? = some g → ob'.l[k]? = some g' → Wk P st ρ g g') ∧ WkOx P st ρ ob.x ob'.x
theorem wkst_nil {st:St} {ρ:List (Nat × Nat)}:WkSt P st ρ []:=fun i ob h => by cases h
theorem wkst_cons {st:St} {ρ:List (Nat × Nat)} {i j:Nat} {ob:Ob} {t:TypeId} {l:List G} {σ:Sto} (h1:rho ρ i = some j) (h2:sget st.σ j = some ob) (hx:ob.x = none) (ht:t = ob.t) (hl:l.length ≤ ob.l.length) (h:∀ (k:Nat) (g g':G),ob.l[k]? = some g → l[k]? = some g' → Wk P st ρ g g') (hr:WkSt P st ρ σ):WkSt P st ρ ((i,some ⟨t,l,none⟩) :: σ):=fun k ob' hk => by
 rw [sget_cons] at hk
 split at hk
 ·cases hk
  subst_vars
  exact ⟨j,ob,h1,h2,rfl,hl,fun e => List.eq_nil_of_length_eq_zero (by simp [e] at hl; simpa using hl),h,by rw [hx]; trivial⟩
 ·exact hr k ob' hk
theorem wkst_consX {st:St} {ρ:List (Nat × Nat)} {i j:Nat} {ob:Ob} {t:TypeId} {x x':Xob} {σ:Sto} (h1:rho ρ i = some j) (h2:sget st.σ j = some ob) (hx:ob.x = some x) (ht:t = ob.t) (h:WkX P st ρ x x') (hv:x ≠ .resv) (hr:WkSt P st ρ σ):WkSt P st ρ ((i,some ⟨t,[],some x'⟩) :: σ):=fun k ob' hk => by
 rw [sget_cons] at hk
 split at hk
 ·cases hk
  subst_vars
  exact ⟨j,ob,h1,h2,rfl,by simp,fun _ => rfl,by simp,by rw [hx]; exact ⟨h,fun e => absurd e hv⟩⟩
 ·exact hr k ob' hk
theorem wk_all {st:St} {ρ:List (Nat × Nat)} {l:List G} (h:∀ g ∈ l,ImmG g):∀ (k:Nat) (g g':G),l[k]? = some g → l[k]? = some g' → Wk P st ρ g g':=fun k g g' h1 h2 => by
 rw [h1] at h2; cases h2; exact wk_imm (h g (List.mem_of_getElem? h1))

theorem RelB.weaken {st st':St} (ρ:List (Nat × Nat)) (hn:st'.n = st.n) (hgl:st'.gl = st.gl) (hp:st'.p = st.p) (hpin:∀ i,i < st.p → rho ρ i = some i) (hinj:∀ i i' j,rho ρ i = some j → rho ρ i' = some j → i = i') (hc:∀ p ∈ ρ,p.1 < st'.c) (hfr:WkFr P st ρ st'.fr) (hst:WkSt P st ρ st'.σ) (hrr:st'.r = st.r) {cx:Cx} {a:Act} {w:World} {β:Bm} (h:RelB P cx st a w β):RelB P cx st' a w (fun i => (rho ρ i).bind β):=by
 have hav:∀ b,Av cx.S0 (fun i => (rho ρ i).bind β) st'.σ b → (cx.S0 b ∨ ∃ i j ob C,rho ρ i = some j ∧ sget st.σ j = some ob ∧ β j = some (some (b,C))):=by
  rintro b (hb | ⟨i,ob',C,h1,h2⟩)
  ·exact .inl hb
  ·obtain ⟨j,ob,h3,h4,_⟩:=hst i ob' h1
   simp only [h3,Option.bind_some] at h2
   exact .inr ⟨i,j,ob,C,h3,h4,h2⟩
 have hbind:∀ i b C,((rho ρ i).bind β) = some (some (b,C)) → ∃ j,rho ρ i = some j ∧ β j = some (some (b,C)):=by
  intro i b C hb
  rw [Option.bind_eq_some_iff] at hb
  exact hb
 have same:∀ i ob',sget st'.σ i = some ob' → ∀ b C,((rho ρ i).bind β) = some (some (b,C)) → ∃ j ob,rho ρ i = some j ∧ sget st.σ j = some ob ∧ β j = some (some (b,C)):=by
  intro i ob' hi b C hb
  obtain ⟨j,ob,h3,h4,_⟩:=hst i ob' hi
  rw [h3] at hb
  exact ⟨j,ob,h3,h4,hb⟩
 exact {
  size:=h.size.trans hn.symm
  defers:=h.defers
  loose:=h.loose
  rnd:=by rw [hrr]; exact h.rnd
  fr:=fun i => (hfr i cx a w β h _ (h.fr i)).step (fun _ _ x => x) (fun b _ hb => hav b hb) (Keeps.refl _ _)
  ob:=fun i ob' hi => by
   obtain ⟨j,ob,h3,h4,h5,h6,h7,h8,h9⟩:=hst i ob' hi
   rcases h.ob j ob h4 with ⟨e1,e2,e0⟩ | ⟨b,x,o,e0,e1,e2,e3,e4⟩ | ⟨b,C,cur,e0,e1,e2,e3,e4,e5,e6⟩
   ·refine .inl ⟨by simp [h3,e1],h7 e2,?_⟩
    rcases e0 with e0 | e0
    ·rw [e0] at h9
     cases hx:ob'.x with
     | none => exact .inl rfl
     | some x => rw [hx] at h9; exact h9.elim
    ·rw [e0] at h9
     cases hx:ob'.x with
     | none => rw [hx] at h9; exact h9.elim
     | some x => rw [hx] at h9; exact .inr (by rw [h9.2 rfl])
   ·rw [e0] at h9
    cases hx:ob'.x with
    | none => rw [hx] at h9; exact h9.elim
    | some x' =>
     rw [hx] at h9
     exact .inr (.inl ⟨b,x',o,hx,h7 e1,by simp [h3,e2],e3,(h9.1 cx a w β h o e4).step (fun _ _ x => x) (fun b _ hb => hav b hb) (Keeps.refl _ _)⟩)
   ·have e0':ob'.x = none:=by
     rw [e0] at h9
     cases hx:ob'.x with
     | none => rfl
     | some x => rw [hx] at h9; exact h9.elim
    refine .inr (.inr ⟨b,C,cur,e0',by simp [h3,e1],by rw [h5]; exact e2,by rw [h5]; exact e3,e4,by omega,fun k g' hg' => ?_⟩)
    have hlt:=(List.getElem?_eq_some_iff.1 hg').1
    have hx:ob.l[k]? = some (ob.l[k]'(by omega)):=by simp [show k < ob.l.length by omega]
    obtain ⟨u,hu,h1',hr⟩:=e6 k _ hx
    exact ⟨u,hu,h1',(h8 k _ g' hx hg' cx a w β h u hr).step (fun _ _ x => x) (fun b _ hb => hav b hb) (Keeps.refl _ _)⟩
  inj:=fun i i' o o' b C D hi hi' hb hb' => by
   obtain ⟨j,ob,h1,h2,h3⟩:=same i o hi b C hb
   obtain ⟨j',ob',h4,h5,h6⟩:=same i' o' hi' b D hb'
   have:=h.inj j j' ob ob' b C D h2 h5 h3 h6
   subst this
   exact hinj i i' j h1 h4
  own:=fun i o b C hi hb => by
   obtain ⟨j,ob,h1,h2,h3⟩:=same i o hi b C hb
   exact h.own j ob b C h2 h3
  sep:=fun i o b C hi hb => by
   obtain ⟨j,ob,h1,h2,h3⟩:=same i o hi b C hb
   exact h.sep j ob b C h2 h3
  fresh:=fun i hi => by
   cases hr:rho ρ i with
   | none => rfl
   | some j =>
    unfold rho at hr
    rw [List.lookup_eq_some_iff] at hr
    obtain ⟨l1,l2,rfl,_⟩:=hr
    have:=hc (i,j) (by simp)
    simp at this
    omega
  glob:=fun g l hl => by
   rw [hgl] at hl
   exact (h.glob g l hl).sub fun b _ hb => by
    rcases hav b hb with hb | ⟨i,j,ob,C,_,h1,h2⟩
    ·exact .inl hb
    ·exact .inr ⟨j,ob,C,h1,h2⟩
  keep:=h.keep
  old:=h.old
  pin:=fun i x hx => by
   obtain ⟨h1,h2⟩:=h.pin i x hx
   exact ⟨by rw [hp]; exact h1,by simp only [hpin i h1,Option.bind_some]; exact h2⟩ }

theorem le_weaken {st st':St} (ρ:List (Nat × Nat)) (hn:st'.n = st.n) (hgl:st'.gl = st.gl) (hp:st'.p = st.p) (hpin:∀ i,i < st.p → rho ρ i = some i) (hinj:∀ i i' j,rho ρ i = some j → rho ρ i' = some j → i = i') (hc:∀ p ∈ ρ,p.1 < st'.c) (hfr:WkFr P st ρ st'.fr) (hst:WkSt P st ρ st'.σ) (hrr:st'.r = st.r:=by rfl):Le P st st':=by
 rintro cx a w ⟨β,h⟩
 exact ⟨_,h.weaken ρ hn hgl hp hpin hinj hc hfr hst hrr⟩

theorem le_virt {st:St} (t:TypeId) {d:Nat} (hd:d < st.n) (hv:fget st.fr d = .lit (.slice none 0 0)):Le P st { st with fr:=(d,.rsl st.c 0 0) :: st.fr,σ:=(st.c,some ⟨t,[],none⟩) :: st.σ,c:=st.c + 1 }:=by
 rintro cx a w ⟨β,h⟩
 have hx:=h.fr d
 rw [hv] at hx
 have he:=hx.lit_eq
 have h2:=h.virt t (k:=st.c) (Nat.le_refl _)
 refine ⟨_,{ h2 with fr:=fun i => ?_ }⟩
 show RV _ _ w (fget ((d,.rsl st.c 0 0) :: st.fr) i) _
 rw [fget_cons]
 split
 ·subst_vars
  rw [he]
  exact .rsl0 _ _ (by simp)
 ·exact h2.fr i
end
end
section
open Go.RowKit
section
variable {P:Program}

theorem gplain_congr {ρ ρ':Operand → G} {o:Oper} (hs:∀ cs b,o.op ≠ .select cs b) (h:∀ x ∈ o.op.operands,ρ x = ρ' x):gplain P ρ o = gplain P ρ' o:=by
 have h1:o.op.operands.all (fun x => (gval (ρ x)).isSome) = o.op.operands.all (fun x => (gval (ρ' x)).isSome):=by
  rw [Bool.eq_iff_iff,Array.all_eq_true_iff_forall_mem,Array.all_eq_true_iff_forall_mem]
  exact ⟨fun k x hx => by rw [← h x hx]; exact k x hx,fun k x hx => by rw [h x hx]; exact k x hx⟩
 have h2:execOp (fun x => (gval (ρ x)).getD undef) o = execOp (fun x => (gval (ρ' x)).getD undef) o:=execOp_congr o hs fun x hx => by rw [h x hx]
 unfold gplain
 rw [h1,h2]
theorem evVal_congr {ρ ρ':Operand → G} {σ:Sto} {o:Oper} (h:∀ x ∈ o.op.operands,ρ x = ρ' x):evVal P ρ σ o = evVal P ρ' σ o:=by
 obtain ⟨dst,op,type,pos,after,guard⟩:=o
 have arr:∀ xs:Array Operand,(∀ x ∈ xs,ρ x = ρ' x) → xs.map ρ = xs.map ρ':=fun xs hx => Array.map_congr_left hx
 cases op
 case move x => simp only [evVal]; rw [h x (by simp [Op.operands])]
 case assign x => simp only [evVal]; rw [h x (by simp [Op.operands])]
 case pick c x y => simp only [evVal]; rw [h c (by simp [Op.operands]),h x (by simp [Op.operands]),h y (by simp [Op.operands])]
 case load t x => simp only [evVal]; rw [h x (by simp [Op.operands])]
 case nilCheck x => simp only [evVal]; rw [h x (by simp [Op.operands])]
 case makeFunc fn f c =>
  simp only [evVal]
  rw [arr f (fun x hx => h x (by simp [Op.operands,hx])),arr c (fun x hx => h x (by simp [Op.operands,hx]))]
 case extract x k => simp only [evVal]; rw [h x (by simp [Op.operands])]
 case makeInterface t x => simp only [evVal]; rw [h x (by simp [Op.operands])]
 case fieldAddr t x k => simp only [evVal]; rw [h x (by simp [Op.operands])]
 case field t x k => simp only [evVal]; rw [h x (by simp [Op.operands])]
 case indexAddr t x i => simp only [evVal]; rw [h x (by simp [Op.operands]),h i (by simp [Op.operands])]
 case index t x i =>
  simp only [evVal]
  rw [gplain_congr (ρ:=ρ) (ρ':=ρ') (by simp) h,h x (by simp [Op.operands]),h i (by simp [Op.operands])]
 case slice t x lo hi mx =>
  cases mx with
  | some _ => simp [evVal]
  | none =>
   simp only [evVal]
   rw [gplain_congr (ρ:=ρ) (ρ':=ρ') (by simp) h,h x (by simp [Op.operands])]
   have e1:lo.map ρ = lo.map ρ':=by cases lo with
    | none => rfl
    | some y => simp [h y (by simp [Op.operands])]
   have e2:hi.map ρ = hi.map ρ':=by cases hi with
    | none => rfl
    | some y => simp [h y (by simp [Op.operands])]
   rw [e1,e2]
 case call c =>
  obtain ⟨callee,args,ats⟩:=c
  cases callee with
  | builtin b =>
   have hg:=gplain_congr (P:=P) (ρ:=ρ) (ρ':=ρ') (o:=⟨dst,.call ⟨.builtin b,args,ats⟩,type,pos,after,guard⟩) (by simp) h
   cases b
   case len =>
    simp only [evVal]
    rw [hg]
    split
    ·rename_i x t hx hat
     have:x ∈ args:=by rw [← Array.mem_toList_iff,hx]; simp
     rw [h x (by simp [Op.operands,Call.operands,this])]
    ·rfl
   all_goals first | rfl | (simp only [evVal]; exact hg)
  | _ => rfl
 case binOp => simp only [evVal]; exact gplain_congr (by simp) h
 case unOp => simp only [evVal]; exact gplain_congr (by simp) h
 case convert => simp only [evVal]; exact gplain_congr (by simp) h
 all_goals rfl

def St.pr (st:St):Nat × Bool:=(st.p,st.r)
def St.like (st st':St):Prop:=st'.n = st.n ∧ st'.gl = st.gl ∧ st'.σ = st.σ ∧ st'.c = st.c ∧ st'.pr = st.pr
def TG (P:Program) (o:Oper) (st:St) (g:G):Prop:=∀ st',st.like st' → (∀ x ∈ o.op.operands,gev st' x = gev st x) → GS P o st' (st'.put o.dst g)
theorem tg_val {o:Oper} {st:St} {g:G} (hd:∀ d,o.dst = some d → d < st.n) (he:evVal P (gev st) st.σ o = some g):TG P o st g:=fun st' ⟨h1,h2,h3,h4,h5⟩ hx =>
 gs_val (by rw [h1]; exact hd) (by rw [h3,← he]; exact evVal_congr hx)
theorem tg_call {o:Oper} {st:St} {f:Operand} {xs:Array Operand} {ats:Array TypeId} {fid:FuncId} {fst cap:List G} {r:G} (ho:o.op = .call { callee:=.value f,args:=xs,argTypes:=ats }) (hd:∀ d,o.dst = some d → d < st.n) (hf:gev st f = .clo (.func fid) fst cap) (hc:callable P fid = true)
  (hi:∀ g ∈ fst ++ xs.toList.map (gev st) ++ cap,ImmG g) (hF:Fn' P st.gl fid (fst ++ xs.toList.map (gev st) ++ cap) r):TG P o st r:=fun st' ⟨h1,h2,h3,h4,h5⟩ hx => by
 have e1:gev st' f = gev st f:=hx f (by simp [ho,Op.operands,Call.operands])
 have e2:xs.toList.map (gev st') = xs.toList.map (gev st):=List.map_congr_left fun x hx' => hx x (by
  have:x ∈ xs:=by simpa using hx'
  simp [ho,Op.operands,Call.operands,this])
 exact gs_call ho (by rw [h1]; exact hd) (e1.trans hf) hc (by rw [e2]; exact hi) (by rw [e2,h2]; exact hF)
theorem tg_build {o:Oper} {st:St} {t:TypeId} {parts:Array (Nat × Operand)} {g:G} (ho:o.op = .build t parts) (hd:∀ d,o.dst = some d → d < st.n) (hg:gbuild P t (parts.toList.map fun p => (p.1,gev st p.2)) = some g):TG P o st g:=fun st' ⟨h1,h2,h3,h4,h5⟩ hx =>
 gs_build ho (by rw [h1]; exact hd) (by
  rw [← hg]
  congr 1
  refine List.map_congr_left fun p hp => ?_
  rw [hx p.2 (by
   have:p ∈ parts:=by simpa using hp
   simp only [ho,Op.operands,List.mem_toArray,List.mem_map]
   exact ⟨p,by simpa using this,rfl⟩)])

def looks (l:List Oper) (o:Oper):List Nat:=(o.op.operands.toList.filterMap fun | .tmp t => some t | _ => none) ++ (match o.guard with | some (g,_) => ((l[g]?).bind (·.dst)).toList | none => [])
def edge (o:Oper) (i:Nat):Bool:=o.after.any fun e => Region.binds .any e && e.on == i
def drawOk (l:List Oper) (bars:List Nat) (n:Nat):Bool :=
 (List.range l.length).all fun j => match l[j]? with
  | none => true
  | some o =>
   (match o.dst with | some d => decide (d < n) | none => true) &&
   o.after.all (fun e => !Region.binds .any e || decide (e.on < j)) &&
   (List.range l.length).all (fun i => match (l[i]?).bind (·.dst) with
    | none => true
    | some d => (i == j || o.dst != some d) && (!(looks l o).contains d || (decide (i < j) && edge o i))) &&
   (!bars.contains j ||
    (
     (List.range l.length).all (fun i => !decide (i < j) || (List.range (j + 1)).any fun k => decide (i < k) && (match l[k]? with | some ok => edge ok i | none => false)) &&
     (List.range l.length).all (fun i => !decide (j < i) || (List.range i).any fun k => decide (j ≤ k) && (match l[i]? with | some oi => edge oi k | none => false))))

def RunD (P:Program) (ops:Array Oper) (bars:List Nat) (K:St → Prop):Nat → List Oper → St → Prop
 | _,[],st => K st
 | j,o :: rest,st =>
  (gwant st ops o = some true ∧ ∃ g,TG P o st g ∧ RunD P ops bars K (j + 1) rest (st.put o.dst g)) ∨
  (gwant st ops o = some false ∧ RunD P ops bars K (j + 1) rest (st.put o.dst (.lit undef))) ∨
  (bars.contains j = true ∧ gwant st ops o = some true ∧ ∃ g σ c,GS P o st ({ st with σ:=σ,c:=c }.put o.dst g) ∧ RunD P ops bars K (j + 1) rest ({ st with σ:=σ,c:=c }.put o.dst g))

def StepD (P:Program) (ops:Array Oper) (bar:Bool) (o:Oper) (g:G) (st st':St):Prop :=
 (gwant st ops o = some true ∧ TG P o st g ∧ st' = st.put o.dst g) ∨ (gwant st ops o = some false ∧ g = .lit undef ∧ st' = st.put o.dst g) ∨
 (bar = true ∧ gwant st ops o = some true ∧ ∃ σ c,st' = { st with σ:=σ,c:=c }.put o.dst g ∧ GS P o st st')
theorem runD_states {ops:Array Oper} {bars:List Nat} {K:St → Prop}:∀ (l:List Oper) (j:Nat) (st:St),RunD P ops bars K j l st →
  ∃ (sts:Nat → St) (gs:Nat → G),sts 0 = st ∧ K (sts l.length) ∧ ∀ i o,l[i]? = some o → StepD P ops (bars.contains (j + i)) o (gs i) (sts i) (sts (i + 1))
 | [],j,st,h => ⟨fun _ => st,fun _ => .junk,rfl,h,by simp⟩
 | o :: rest,j,st,h => by
  have put:∀ (st1:St) (g:G),RunD P ops bars K (j + 1) rest st1 → StepD P ops (bars.contains j) o g st st1 → ∃ (sts:Nat → St) (gs:Nat → G),sts 0 = st ∧ K (sts (o :: rest).length) ∧ ∀ i o',(o :: rest)[i]? = some o' → StepD P ops (bars.contains (j + i)) o' (gs i) (sts i) (sts (i + 1)):=by
   intro st1 g hr hs
   obtain ⟨sts,gs,h1,h2,h3⟩:=runD_states rest (j + 1) st1 hr
   refine ⟨fun i => match i with | 0 => st | i + 1 => sts i,fun i => match i with | 0 => g | i + 1 => gs i,rfl,h2,fun i o' ho => ?_⟩
   cases i with
   | zero => simp at ho; subst ho; simpa [h1] using hs
   | succ i =>
    have:=h3 i o' (by simpa using ho)
    rw [show j + 1 + i = j + (i + 1) by omega] at this
    exact this
  rcases h with ⟨h1,g,h2,h3⟩ | ⟨h1,h3⟩ | ⟨h0,h1,g,σ,c,h2,h3⟩
  ·exact put _ g h3 (.inl ⟨h1,h2,rfl⟩)
  ·exact put _ (.lit undef) h3 (.inr (.inl ⟨h1,rfl,rfl⟩))
  ·exact put _ g h3 (.inr (.inr ⟨h0,h1,σ,c,rfl,h2⟩))

theorem StepD.like {ops:Array Oper} {bar:Bool} {o:Oper} {g:G} {st st':St} (h:StepD P ops bar o g st st'):st'.n = st.n ∧ (st'.gl = st.gl ∧ st'.pr = st.pr) ∧ (∀ t,fget st'.fr t = if o.dst = some t then g else fget st.fr t) ∧ (bar = false → st'.σ = st.σ ∧ st'.c = st.c):=by
 have hp:∀ s:St,s.n = st.n → s.gl = st.gl → s.pr = st.pr → s.fr = st.fr → (s.put o.dst g).n = st.n ∧ ((s.put o.dst g).gl = st.gl ∧ (s.put o.dst g).pr = st.pr) ∧ (∀ t,fget (s.put o.dst g).fr t = if o.dst = some t then g else fget st.fr t) ∧ (s.put o.dst g).σ = s.σ ∧ (s.put o.dst g).c = s.c:=by
  intro s h1 h2 h4 h3
  cases hd:o.dst with
  | none => simp [St.put,h1,h2,h3,h4]
  | some d =>
   refine ⟨h1,⟨h2,h4⟩,fun t => ?_,rfl,rfl⟩
   show fget ((d,g) :: s.fr) t = _
   rw [fget_cons,h3]
   by_cases e:d = t <;> simp [e]
 rcases h with ⟨_,_,rfl⟩ | ⟨_,_,rfl⟩ | ⟨hb,_,σ,c,rfl,_⟩
 ·obtain ⟨a,b,c,d,e⟩:=hp st rfl rfl rfl rfl
  exact ⟨a,b,c,fun _ => ⟨d,e⟩⟩
 ·obtain ⟨a,b,c,d,e⟩:=hp st rfl rfl rfl rfl
  exact ⟨a,b,c,fun _ => ⟨d,e⟩⟩
 ·obtain ⟨a,b,c',d,e⟩:=hp { st with σ:=σ,c:=c } rfl rfl rfl rfl
  exact ⟨a,b,c',fun h => by rw [hb] at h; cases h⟩

theorem Rel.congr {cx:Cx} {st st':St} {a:Act} {w:World} (h:Rel P cx st a w) (hn:st'.n = st.n) (hg:st'.gl = st.gl) (hf:∀ t,fget st'.fr t = fget st.fr t) (hs:st'.σ = st.σ) (hc:st'.c = st.c) (hp:st'.pr = st.pr):Rel P cx st' a w:=by
 obtain ⟨β,h⟩:=h
 obtain ⟨n,gl,fr,σ,c,p,r⟩:=st
 obtain ⟨n',gl',fr',σ',c',p',r'⟩:=st'
 simp only [St.pr,Prod.mk.injEq] at hn hg hf hs hc hp
 obtain ⟨hp,hr⟩:=hp
 subst hn; subst hg; subst hs; subst hc; subst hp; subst hr
 exact ⟨β,{ h with fr:=fun i => by show RV _ _ w (fget fr' i) _; rw [hf i]; exact h.fr i }⟩

theorem count_set:∀ (l:List Bool) (i:Nat),l[i]? = some false → (l.set i true).count false + 1 = l.count false
 | [],i,h => by simp at h
 | b :: r,0,h => by simp at h; subst h; simp
 | b :: r,i + 1,h => by
  have:=count_set r i (by simpa using h)
  simp only [List.set_cons_succ,List.count_cons]
  omega

section draw
variable {l:List Oper} {bars:List Nat} {st:St} {K:St → Prop} {cx:Cx} {Q:Exit → Act → World → Prop}
def dsts (l:List Oper) (i:Nat):Option Tmp:=(l[i]?).bind (·.dst)
structure DFacts (P:Program) (l:List Oper) (bars:List Nat) (st:St) (sts:Nat → St) (gs:Nat → G):Prop where
 zero:sts 0 = st
 dstn:∀ (j:Nat) (o:Oper) (d:Tmp),l[j]? = some o → o.dst = some d → d < st.n
 step:∀ i o,l[i]? = some o → StepD P l.toArray (bars.contains i) o (gs i) (sts i) (sts (i + 1))
 edges:∀ j o,l[j]? = some o → ∀ e ∈ o.after,Region.binds .any e = true → e.on < j
 uniq:∀ i j d,dsts l i = some d → dsts l j = some d → i = j
 look:∀ i j o d,l[j]? = some o → dsts l i = some d → d ∈ looks l o → i < j ∧ edge o i = true
 bar1:∀ j i,j < l.length → bars.contains j = true → i < j → ∃ k ok,i < k ∧ k ≤ j ∧ l[k]? = some ok ∧ edge ok i = true
 bar2:∀ j i,i < l.length → j < l.length → bars.contains j = true → j < i → ∃ k oi,j ≤ k ∧ k < i ∧ l[i]? = some oi ∧ edge oi k = true

theorem drawOk_facts {sts:Nat → St} {gs:Nat → G} (h:drawOk l bars st.n = true) (h0:sts 0 = st) (hs:∀ i o,l[i]? = some o → StepD P l.toArray (bars.contains i) o (gs i) (sts i) (sts (i + 1))):DFacts P l bars st sts gs:=by
 have hj:∀ j o,l[j]? = some o → j < l.length:=fun j o ho => (List.getElem?_eq_some_iff.1 ho).1
 have key:=fun j o (ho:l[j]? = some o) => by
  have:=List.all_eq_true.1 h j (List.mem_range.2 (hj j o ho))
  rw [ho] at this
  simp only [Bool.and_eq_true] at this
  exact this
 refine ⟨h0,fun j o d ho hd => ?_,hs,fun j o ho e he hb => ?_,fun i j d hi hj' => ?_,fun i j o d ho hi hl => ?_,fun j i hlt hb hij => ?_,fun j i hil hlt hb hji => ?_⟩
 ·have:=(key j o ho).1.1.1
  rw [hd] at this
  simpa using this
 ·have:=Array.all_eq_true_iff_forall_mem.1 (key j o ho).1.1.2 e he
  simpa [hb] using this
 ·cases hoj:l[j]? with
  | none => simp [dsts,hoj] at hj'
  | some oj =>
   cases hoi:l[i]? with
   | none => simp [dsts,hoi] at hi
   | some oi =>
    have:=List.all_eq_true.1 (key j oj hoj).1.2 i (List.mem_range.2 (hj i oi hoi))
    have hi':(l[i]?).bind (·.dst) = some d:=hi
    have hj'':oj.dst = some d:=by simpa [dsts,hoj] using hj'
    rw [hi'] at this
    simp only [Bool.and_eq_true,Bool.or_eq_true,beq_iff_eq,bne_iff_ne] at this
    rcases this.1 with h1 | h1
    ·exact h1
    ·exact absurd hj'' h1
 ·cases hoi:l[i]? with
  | none => simp [dsts,hoi] at hi
  | some oi =>
   have:=List.all_eq_true.1 (key j o ho).1.2 i (List.mem_range.2 (hj i oi hoi))
   have hi':(l[i]?).bind (·.dst) = some d:=hi
   rw [hi'] at this
   simp only [Bool.and_eq_true,Bool.or_eq_true,Bool.not_eq_true',decide_eq_true_eq] at this
   rcases this.2 with h1 | h1
   ·rw [List.contains_eq_mem,decide_eq_false_iff_not] at h1
    exact absurd hl h1
   ·exact h1
 ·obtain ⟨o,ho⟩:∃ o,l[j]? = some o:=⟨_,List.getElem?_eq_getElem hlt⟩
  have h2:=(key j o ho).2
  simp only [Bool.or_eq_true,Bool.not_eq_true',Bool.and_eq_true] at h2
  rcases h2 with h2 | ⟨h2,_⟩
  ·rw [hb] at h2; cases h2
  ·have:=List.all_eq_true.1 h2 i (List.mem_range.2 (by omega))
   simp only [Bool.or_eq_true,Bool.not_eq_true',decide_eq_false_iff_not] at this
   rcases this with h3 | h3
   ·exact absurd hij h3
   ·obtain ⟨k,hk,h4⟩:=List.any_eq_true.1 h3
    rw [Bool.and_eq_true] at h4
    have hk':=List.mem_range.1 hk
    cases hok:l[k]? with
    | none => rw [hok] at h4; exact absurd h4.2 (by simp)
    | some ok => rw [hok] at h4; exact ⟨k,ok,by simpa using h4.1,by omega,hok,h4.2⟩
 ·obtain ⟨o,ho⟩:∃ o,l[j]? = some o:=⟨_,List.getElem?_eq_getElem hlt⟩
  have h2:=(key j o ho).2
  simp only [Bool.or_eq_true,Bool.not_eq_true',Bool.and_eq_true] at h2
  rcases h2 with h2 | ⟨_,h2⟩
  ·rw [hb] at h2; cases h2
  ·have:=List.all_eq_true.1 h2 i (List.mem_range.2 hil)
   simp only [Bool.or_eq_true,Bool.not_eq_true',decide_eq_false_iff_not] at this
   rcases this with h3 | h3
   ·exact absurd hji h3
   ·obtain ⟨k,hk,h4⟩:=List.any_eq_true.1 h3
    rw [Bool.and_eq_true] at h4
    have hk':=List.mem_range.1 hk
    cases hoi:l[i]? with
    | none => rw [hoi] at h4; exact absurd h4.2 (by simp)
    | some oi => rw [hoi] at h4; exact ⟨k,oi,by simpa using h4.1,hk',rfl,h4.2⟩

variable {sts:Nat → St} {gs:Nat → G}
theorem DFacts.ngl (F:DFacts P l bars st sts gs):∀ i,i ≤ l.length → (sts i).n = st.n ∧ (sts i).gl = st.gl ∧ (sts i).pr = st.pr
 | 0,_ => by rw [F.zero]; exact ⟨rfl,rfl,rfl⟩
 | i + 1,hi => by
  obtain ⟨a,b,b'⟩:=F.ngl i (by omega)
  obtain ⟨c,⟨d,d'⟩,_⟩:=(F.step i _ (List.getElem?_eq_getElem (by omega))).like
  exact ⟨c.trans a,d.trans b,d'.trans b'⟩
theorem DFacts.fr1 (F:DFacts P l bars st sts gs) {j:Nat} {t:Tmp} (hd:dsts l j = some t):∀ i,j < i → i ≤ l.length → fget (sts i).fr t = gs j
 | 0,h,_ => by omega
 | i + 1,h,hi => by
  have ho:l[i]? = some (l[i]'(by omega)):=List.getElem?_eq_getElem (by omega)
  obtain ⟨_,_,c,_⟩:=(F.step i _ ho).like
  rw [c t]
  by_cases e:j = i
  ·subst e
   have:(l[j]'(by omega)).dst = some t:=by simpa [dsts,ho] using hd
   rw [if_pos this]
  ·have:(l[i]'(by omega)).dst ≠ some t:=fun x => e (F.uniq j i t hd (by simp [dsts,ho,x]))
   rw [if_neg this]
   exact F.fr1 hd i (by omega) (by omega)
theorem DFacts.fr2 (F:DFacts P l bars st sts gs) {t:Tmp}:∀ i,i ≤ l.length → (∀ j,j < i → dsts l j ≠ some t) → fget (sts i).fr t = fget st.fr t
 | 0,_,_ => by rw [F.zero]
 | i + 1,hi,h => by
  have ho:l[i]? = some (l[i]'(by omega)):=List.getElem?_eq_getElem (by omega)
  obtain ⟨_,_,c,_⟩:=(F.step i _ ho).like
  rw [c t,if_neg (fun x => h i (by omega) (by simp [dsts,ho,x]))]
  exact F.fr2 i (by omega) (fun j hj => h j (by omega))
theorem DFacts.sto (F:DFacts P l bars st sts gs) {a:Nat}:∀ b,a ≤ b → b ≤ l.length → (∀ k,a ≤ k → k < b → bars.contains k = false) → (sts b).σ = (sts a).σ ∧ (sts b).c = (sts a).c
 | 0,h,_,_ => by
           obtain rfl:a = 0:=by omega
           exact ⟨rfl,rfl⟩
 | b + 1,h,hl,hb => by
  by_cases e:a = b + 1
  ·subst e; exact ⟨rfl,rfl⟩
  ·have ho:l[b]? = some (l[b]'(by omega)):=List.getElem?_eq_getElem (by omega)
   obtain ⟨_,_,_,d⟩:=(F.step b _ ho).like
   obtain ⟨d1,d2⟩:=d (hb b (by omega) (by omega))
   obtain ⟨e1,e2⟩:=F.sto b (by omega) (by omega) (fun k h1 h2 => hb k h1 (by omega))
   exact ⟨d1.trans e1,d2.trans e2⟩

structure DInv (P:Program) (l:List Oper) (bars:List Nat) (st:St) (sts:Nat → St) (gs:Nat → G) (cx:Cx) (L:Array Bool) (a:Act) (w:World) (m:Nat) (st':St):Prop where
 size:L.size = l.length
 closed:∀ j o,L.getD j false = true → l[j]? = some o → ∀ e ∈ o.after,Region.binds .any e = true → L.getD e.on false = true
 hm:m ≤ l.length
 bar:∀ b,b < l.length → bars.contains b = true → (L.getD b false = true ↔ b < m)
 rel:Rel P cx st' a w
 n:st'.n = st.n
 gl:st'.gl = st.gl
 σ:st'.σ = (sts m).σ
 c:st'.c = (sts m).c
 p:st'.pr = st.pr
 f1:∀ j t,L.getD j false = true → dsts l j = some t → fget st'.fr t = gs j
 f2:∀ t,(∀ j,L.getD j false = true → dsts l j ≠ some t) → fget st'.fr t = fget st.fr t

theorem edge_spec {o:Oper} {i:Nat} (h:edge o i = true):∃ e ∈ o.after,Region.binds .any e = true ∧ e.on = i:=by
 obtain ⟨e,he,hb⟩:=Array.any_eq_true'.1 h
 simp only [Bool.and_eq_true,beq_iff_eq] at hb
 exact ⟨e,he,hb⟩

theorem DInv.ahead (F:DFacts P l bars st sts gs) {L:Array Bool} {a:Act} {w:World} {m:Nat} {st':St} (I:DInv P l bars st sts gs cx L a w m st') {j:Nat} {o:Oper} (ho:l[j]? = some o) (hr:∀ e ∈ o.after,Region.binds .any e = true → L.getD e.on false = true) (hb:bars.contains j = true):∀ d i,i + d = j → 0 < d → L.getD i false = true:=by
 intro d
 induction d using Nat.strongRecOn with
 | _ d ih =>
  intro i hi hd
  have hjl:=(List.getElem?_eq_some_iff.1 ho).1
  obtain ⟨k,ok,h1,h2,h3,h4⟩:=F.bar1 j i hjl hb (by omega)
  obtain ⟨e,he,hbe,hon⟩:=edge_spec h4
  by_cases hkj:k = j
  ·subst hkj
   rw [ho] at h3; cases h3
   rw [← hon]; exact hr e he hbe
  ·have:=ih (j - k) (by omega) k (by omega) (by omega)
   rw [← hon]; exact I.closed k ok this h3 e he hbe
theorem DInv.behind (F:DFacts P l bars st sts gs) {L:Array Bool} {a:Act} {w:World} {m:Nat} {st':St} (I:DInv P l bars st sts gs cx L a w m st') {j:Nat} (hj:j < l.length) (hb:bars.contains j = true):∀ i,j < i → i < l.length → (L.getD i false = true ∨ ∃ oi,l[i]? = some oi ∧ ∀ e ∈ oi.after,Region.binds .any e = true → L.getD e.on false = true) → L.getD j false = true:=by
 intro i
 induction i using Nat.strongRecOn with
 | _ i ih =>
  intro hji hil hL
  obtain ⟨k,oi,h1,h2,h3,h4⟩:=F.bar2 j i hil hj hb hji
  obtain ⟨e,he,hbe,hon⟩:=edge_spec h4
  have hk:L.getD k false = true:=by
   rcases hL with hL | ⟨oi',ho',hr⟩
   ·rw [← hon]; exact I.closed i oi hL h3 e he hbe
   ·rw [h3] at ho'; cases ho'
    rw [← hon]; exact hr e he hbe
  by_cases hkj:k = j
  ·subst hkj; exact hk
  ·exact ih k h2 (by omega) (by omega) (.inl hk)

theorem getD_lt {L:Array Bool} {j:Nat} (h:L.getD j false = true):j < L.size:=by
 rcases Nat.lt_or_ge j L.size with h' | h'
 ·exact h'
 ·simp [Array.getElem?_eq_none h'] at h
theorem getD_set {L:Array Bool} {i j:Nat} (hi:i < L.size):(L.setIfInBounds i true).getD j false = if i = j then true else L.getD j false:=by
 by_cases e:i = j
 ·subst e; simp [hi]
 ·rw [if_neg e]
  simp [Array.getElem?_setIfInBounds_ne e]

theorem DInv.same (F:DFacts P l bars st sts gs) {L:Array Bool} {a:Act} {w:World} {m:Nat} {st':St} (I:DInv P l bars st sts gs cx L a w m st') {j:Nat} {o:Oper} (ho:l[j]? = some o) (hr:∀ e ∈ o.after,Region.binds .any e = true → L.getD e.on false = true) {t:Tmp} (ht:t ∈ looks l o):fget st'.fr t = fget (sts j).fr t:=by
 have hjl:=(List.getElem?_eq_some_iff.1 ho).1
 by_cases hx:∃ i,dsts l i = some t
 ·obtain ⟨i,hi⟩:=hx
  obtain ⟨h1,h2⟩:=F.look i j o t ho hi ht
  obtain ⟨e,he,hbe,hon⟩:=edge_spec h2
  have hL:L.getD i false = true:=by rw [← hon]; exact hr e he hbe
  rw [I.f1 i t hL hi,F.fr1 hi j h1 (by omega)]
 ·rw [I.f2 t (fun i _ h => hx ⟨i,h⟩),F.fr2 j (by omega) (fun i _ h => hx ⟨i,h⟩)]
theorem DInv.sto (F:DFacts P l bars st sts gs) {L:Array Bool} {a:Act} {w:World} {m:Nat} {st':St} (I:DInv P l bars st sts gs cx L a w m st') {j:Nat} {o:Oper} (ho:l[j]? = some o) (hr:∀ e ∈ o.after,Region.binds .any e = true → L.getD e.on false = true) (hL:L.getD j false = false):st'.σ = (sts j).σ ∧ st'.c = (sts j).c:=by
 have hjl:=(List.getElem?_eq_some_iff.1 ho).1
 rw [I.σ,I.c]
 rcases Nat.le_total m j with hmj | hjm
 ·have:=F.sto (a:=m) j hmj (by omega) (fun b h1 h2 => by
   cases hb:bars.contains b with
   | false => rfl
   | true =>
    have h3:=I.behind F (j:=b) (by omega) hb j h2 hjl (.inr ⟨o,ho,hr⟩)
    have:=(I.bar b (by omega) hb).1 h3
    omega)
  exact ⟨this.1.symm,this.2.symm⟩
 ·exact F.sto (a:=j) m hjm I.hm (fun b h1 h2 => by
   cases hb:bars.contains b with
   | false => rfl
   | true =>
    have hm:=I.hm
    have h3:=(I.bar b (by omega) hb).2 h2
    by_cases e:b = j
    ·subst e; rw [hL] at h3; cases h3
    ·obtain ⟨ob,hob⟩:∃ ob,l[b]? = some ob:=⟨_,List.getElem?_eq_getElem (by omega)⟩
     have:=I.ahead F hob (fun e he hbe => I.closed b ob h3 hob e he hbe) hb (b - j) j (by omega) (by omega)
     rw [hL] at this; cases this)

theorem gev_same {st' s:St} (hg:st'.gl = s.gl) {x:Operand} (h:∀ t,x = .tmp t → fget st'.fr t = fget s.fr t):gev st' x = gev s x:=by
 cases x with
 | tmp t => exact h t rfl
 | const v => rfl
 | global g => simp only [gev,hg]
 | func f => rfl

theorem DInv.next (F:DFacts P l bars st sts gs) {L:Array Bool} {a a':Act} {w w':World} {m:Nat} {st':St} (I:DInv P l bars st sts gs cx L a w m st') {j:Nat} {o:Oper} (ho:l[j]? = some o) (hr:∀ e ∈ o.after,Region.binds .any e = true → L.getD e.on false = true) (hL:L.getD j false = false)
  (hrel:(bars.contains j = false ∧ Rel P cx (st'.put o.dst (gs j)) a' w') ∨ (bars.contains j = true ∧ Rel P cx (sts (j + 1)) a' w')):∃ m2 st2,DInv P l bars st sts gs cx (L.setIfInBounds j true) a' w' m2 st2:=by
 have hjl:=(List.getElem?_eq_some_iff.1 ho).1
 have hjs:j < L.size:=by rw [I.size]; exact hjl
 have hcl:∀ k ok,(L.setIfInBounds j true).getD k false = true → l[k]? = some ok → ∀ e ∈ ok.after,Region.binds .any e = true → (L.setIfInBounds j true).getD e.on false = true:=by
  intro k ok hk hok e he hbe
  rw [getD_set hjs]
  split
  ·rfl
  ·rw [getD_set hjs] at hk
   by_cases ek:j = k
   ·subst ek; rw [ho] at hok; cases hok; exact hr e he hbe
   ·rw [if_neg ek] at hk
    exact I.closed k ok hk hok e he hbe
 rcases hrel with ⟨hb,hrel⟩ | ⟨hb,hrel⟩
 ·refine ⟨m,_,{ size:=by simp [I.size],closed:=hcl,hm:=I.hm,bar:=fun b hbl hbb => ?_,rel:=hrel,n:=?_,gl:=?_,σ:=?_,c:=?_,p:=?_,f1:=fun k t hk hd => ?_,f2:=fun t ht => ?_ }⟩
  ·rw [getD_set hjs,if_neg (fun e => by subst e; rw [hb] at hbb; cases hbb)]
   exact I.bar b hbl hbb
  ·rw [← I.n]; cases o.dst <;> rfl
  ·rw [← I.gl]; cases o.dst <;> rfl
  ·rw [← I.σ]; cases o.dst <;> rfl
  ·rw [← I.c]; cases o.dst <;> rfl
  ·rw [← I.p]; cases o.dst <;> rfl
  ·have hpf:fget (st'.put o.dst (gs j)).fr t = if o.dst = some t then gs j else fget st'.fr t:=by
    cases hd':o.dst with
    | none => rfl
    | some d =>
     show fget ((d,gs j) :: st'.fr) t = _
     rw [fget_cons]
     by_cases e:d = t <;> simp [e]
   rw [hpf]
   by_cases e:j = k
   ·subst e
    have:o.dst = some t:=by simpa [dsts,ho] using hd
    rw [if_pos this]
   ·rw [if_neg (fun x => e (F.uniq j k t (by simp [dsts,ho,x]) hd))]
    rw [getD_set hjs,if_neg e] at hk
    exact I.f1 k t hk hd
  ·have hpf:fget (st'.put o.dst (gs j)).fr t = if o.dst = some t then gs j else fget st'.fr t:=by
    cases hd':o.dst with
    | none => rfl
    | some d =>
     show fget ((d,gs j) :: st'.fr) t = _
     rw [fget_cons]
     by_cases e:d = t <;> simp [e]
   rw [hpf,if_neg (fun x => ht j (by rw [getD_set hjs,if_pos rfl]) (by simp [dsts,ho,x]))]
   exact I.f2 t (fun k hk => ht k (by
    rw [getD_set hjs]
    split
    ·rfl
    ·exact hk))
 ·obtain ⟨hn,hg,hp⟩:=F.ngl (j + 1) (by omega)
  have hah:∀ i,i < j → L.getD i false = true:=fun i hi => I.ahead F ho hr hb (j - i) i (by omega) (by omega)
  have hbe:∀ i,j < i → L.getD i false = false:=fun i hi => by
   cases h:L.getD i false with
   | false => rfl
   | true =>
    have hil:i < l.length:=by rw [← I.size]; exact getD_lt h
    have:=I.behind F hjl hb i hi hil (.inl h)
    rw [hL] at this; cases this
  have hLs:∀ k,(L.setIfInBounds j true).getD k false = true ↔ k < j + 1:=by
   intro k
   rw [getD_set hjs]
   by_cases e:j = k
   ·subst e; simp
   ·rw [if_neg e]
    rcases Nat.lt_or_ge k j with h | h
    ·simp only [hah k h,true_iff]; omega
    ·have hk:=hbe k (by omega)
     rw [hk]; simp; omega
  refine ⟨j + 1,sts (j + 1),{ size:=by simp [I.size],closed:=hcl,hm:=hjl,bar:=fun b hbl hbb => hLs b,rel:=hrel,n:=hn,gl:=hg,σ:=rfl,c:=rfl,p:=hp,f1:=fun k t hk hd => F.fr1 hd (j + 1) ((hLs k).1 hk) hjl,f2:=fun t ht => F.fr2 (j + 1) hjl (fun k hk => ht k ((hLs k).2 hk)) }⟩

theorem DInv.run (F:DFacts P l bars st sts gs) (hK:∀ a w,Rel P cx (sts l.length) a w → Q .normal a w):∀ (fuel:Nat) (L:Array Bool) (a:Act) (w:World) (m:Nat) (st':St),L.toList.count false ≤ fuel → DInv P l bars st sts gs cx L a w m st' → wpAnyIn cx.F cx.nn P .any l.toArray Q fuel L a w:=by
 have done:∀ (L:Array Bool) (a:Act) (w:World) (m:Nat) (st':St),DInv P l bars st sts gs cx L a w m st' → (∀ j,j < l.length → L.getD j false = true) → Q .normal a w:=by
  intro L a w m st' I hall
  obtain ⟨hn,hg,hp⟩:=F.ngl l.length (Nat.le_refl _)
  obtain ⟨s1,s2⟩:=F.sto (a:=m) l.length I.hm (Nat.le_refl _) (fun b h1 h2 => by
   cases hb:bars.contains b with
   | false => rfl
   | true => have:=(I.bar b h2 hb).1 (hall b h2); omega)
  refine hK a w (I.rel.congr (hn.trans I.n.symm) (hg.trans I.gl.symm) (fun t => ?_) (s1.trans I.σ.symm) (s2.trans I.c.symm) (hp.trans I.p.symm))
  by_cases hx:∃ i,dsts l i = some t
  ·obtain ⟨i,hi⟩:=hx
   have hil:i < l.length:=by
    rcases Nat.lt_or_ge i l.length with h | h
    ·exact h
    ·simp [dsts,List.getElem?_eq_none h] at hi
   rw [F.fr1 hi l.length hil (Nat.le_refl _),I.f1 i t (hall i hil) hi]
  ·rw [F.fr2 l.length (Nat.le_refl _) (fun i _ h => hx ⟨i,h⟩),I.f2 t (fun i _ h => hx ⟨i,h⟩)]
 have empty:∀ (L:Array Bool) (a:Act) (w:World) (m:Nat) (st':St),DInv P l bars st sts gs cx L a w m st' → Region.ready .any l.toArray L = [] → ∀ j,j < l.length → L.getD j false = true:=by
  intro L a w m st' I hr j
  induction j using Nat.strongRecOn with
  | _ j ih =>
   intro hj
   cases h:L.getD j false with
   | true => rfl
   | false =>
    have:j ∈ Region.ready .any l.toArray L:=by
     rw [mem_ready]
     have ho:l[j]? = some (l[j]'hj):=List.getElem?_eq_getElem hj
     refine ⟨?_,l[j]'hj,by simp,fun e he hbe => ?_⟩
     ·have hs:j < L.size:=by rw [I.size]; exact hj
      simp [hs] at h ⊢; exact h
     ·have:=F.edges j _ ho e he hbe
      exact ih e.on this (by omega)
    rw [hr] at this
    cases this
 intro fuel
 induction fuel with
 | zero =>
  intro L a w m st' hc I
  have hall:∀ j,j < l.length → L.getD j false = true:=by
   intro j hj
   have hs:j < L.size:=by rw [I.size]; exact hj
   have h0:L.toList.count false = 0:=by omega
   rw [List.count_eq_zero] at h0
   cases h:L.getD j false with
   | true => rfl
   | false =>
    simp [hs] at h
    exact absurd (by rw [← h]; simp:false ∈ L.toList) h0
  refine ⟨?_,done L a w m st' I hall⟩
  cases hr:Region.ready .any l.toArray L with
  | nil => rfl
  | cons x xs =>
   have hx:x ∈ Region.ready .any l.toArray L:=by rw [hr]; simp
   obtain ⟨h1,o,ho,_⟩:=mem_ready.1 hx
   have hxl:x < l.length:=by have:=(Array.getElem?_eq_some_iff.1 ho).1; simpa using this
   have hs:x < L.size:=by rw [I.size]; exact hxl
   have:=hall x hxl
   simp [hs] at h1 this
   rw [h1] at this; cases this
 | succ fuel ih =>
  intro L a w m st' hc I
  refine ⟨fun hr => done L a w m st' I (empty L a w m st' I hr),fun j hj => ?_⟩
  obtain ⟨h1,o,ho',hr⟩:=mem_ready.1 hj
  have ho:l[j]? = some o:=by simpa using ho'
  have hjl:=(List.getElem?_eq_some_iff.1 ho).1
  have hs:j < L.size:=by rw [I.size]; exact hjl
  have hL:L.getD j false = false:=by simp [hs] at h1 ⊢; exact h1
  have hcnt:(L.setIfInBounds j true).toList.count false ≤ fuel:=by
   have:=count_set L.toList j (by simp [hs] at h1; simp [hs,h1])
   rw [Array.toList_setIfInBounds]
   omega
  have next:∀ a' w',((bars.contains j = false ∧ Rel P cx (st'.put o.dst (gs j)) a' w') ∨ (bars.contains j = true ∧ Rel P cx (sts (j + 1)) a' w')) → wpAnyIn cx.F cx.nn P .any l.toArray Q fuel (L.setIfInBounds j true) a' w':=by
   intro a' w' h
   obtain ⟨m2,st2,I2⟩:=I.next F ho hr hL h
   exact ih _ a' w' m2 st2 hcnt I2
  obtain ⟨hn,hg,hp⟩:=F.ngl j (by omega)
  obtain ⟨s1,s2⟩:=I.sto F ho hr hL
  have hlook:=fun t (ht:t ∈ looks l o) => I.same F ho hr ht
  have hgev:∀ x ∈ o.op.operands,gev st' x = gev (sts j) x:=fun x hx => gev_same (I.gl.trans hg.symm) (fun t e => hlook t (by
   subst e
   exact List.mem_append_left _ (List.mem_filterMap.2 ⟨.tmp t,by simpa using hx,rfl⟩)))
  have hgw:gwant st' l.toArray o = gwant (sts j) l.toArray o:=by
   unfold gwant
   cases hgd:o.guard with
   | none => rfl
   | some gw =>
    obtain ⟨g,want⟩:=gw
    simp only
    cases hd:(l.toArray[g]?).bind (·.dst) with
    | none => rfl
    | some d =>
     simp only
     rw [hlook d (List.mem_append_right _ (by
      rw [hgd]
      have:(l[g]?).bind (·.dst) = some d:=by simpa using hd
      simp [this]))]
  have hat:∀ {s:St},Rel P cx s a w → True:=fun _ => trivial
  obtain ⟨β,rb⟩:=I.rel
  unfold wpOpIn
  simp only [ho']
  have hstep:=F.step j o ho
  -- a barrier: all is as in the text's order
  have hbar:bars.contains j = true → Rel P cx (sts j) a w:=by
   intro hb
   refine Rel.congr (st:=st') ⟨β,rb⟩ (hn.trans I.n.symm) (hg.trans I.gl.symm) (fun t => ?_) s1.symm s2.symm (hp.trans I.p.symm)
   have hah:∀ i,i < j → L.getD i false = true:=fun i hi => I.ahead F ho hr hb (j - i) i (by omega) (by omega)
   by_cases hx:∃ i,i < j ∧ dsts l i = some t
   ·obtain ⟨i,hij,hi⟩:=hx
    rw [F.fr1 hi j hij (by omega),I.f1 i t (hah i hij) hi]
   ·rw [F.fr2 j (by omega) (fun i hij h => hx ⟨i,hij,h⟩),I.f2 t (fun i hLi h => ?_)]
    have hil:i < l.length:=by rw [← I.size]; exact getD_lt hLi
    rcases Nat.lt_trichotomy i j with h' | h' | h'
    ·exact hx ⟨i,h',h⟩
    ·subst h'; rw [hL] at hLi; cases hLi
    ·have:=I.behind F hjl hb i h' hil (.inl hLi)
     rw [hL] at this; cases this
  rcases hstep with ⟨hw,hT,hst⟩ | ⟨hw,hge,hst⟩ | ⟨hb,hw,σ,c,hst,hG⟩
  ·rw [← hgw] at hw
   rw [if_pos (gwant_spec rb hw)]
   cases hb:bars.contains j with
   | false =>
    have hlike:(sts j).like st':=⟨I.n.trans hn.symm,I.gl.trans hg.symm,s1,s2,I.p.trans hp.symm⟩
    exact hT st' hlike hgev cx a w _ Q ⟨β,rb⟩ fun a' w' r' => next a' w' (.inl ⟨hb,r'⟩)
   | true =>
    have hlike:(sts j).like (sts j):=⟨rfl,rfl,rfl,rfl,rfl⟩
    exact hT (sts j) hlike (fun _ _ => rfl) cx a w _ Q (hbar hb) fun a' w' r' => next a' w' (.inr ⟨hb,by rw [hst]; exact r'⟩)
  ·rw [← hgw] at hw
   rw [if_neg (by rw [gwant_spec rb hw]; simp)]
   refine ⟨fun f _ => rb.loose.fn f,?_⟩
   have hd:∀ d,o.dst = some d → d < st'.n:=fun d h => by rw [I.n]; exact F.dstn j o d ho h
   cases hb:bars.contains j with
   | false => exact next _ w (.inl ⟨hb,⟨β,by rw [hge]; exact rb.put o.dst hd (.imm _ _ (.lit _))⟩⟩)
   | true =>
    obtain ⟨β',rb'⟩:=hbar hb
    refine next _ w (.inr ⟨hb,⟨β',?_⟩⟩)
    rw [hst,hge]
    exact rb'.put o.dst (by rw [hn,← I.n]; exact hd) (.imm _ _ (.lit _))
  ·rw [← hgw] at hw
   rw [if_pos (gwant_spec rb hw)]
   exact hG cx a w _ Q (hbar hb) fun a' w' r' => next a' w' (.inr ⟨hb,r'⟩)

theorem tr_region_draw {id:Nat} {Q:Exit → St → Prop} (hm:P.follows .mixedOrders = true) (hok:drawOk l bars st.n = true) (h:RunD P l.toArray bars (Q .normal) 0 l st):Tr P (.region id l.toArray true) st Q:=fun cx a w R ⟨β,r⟩ k => by
 obtain ⟨sts,gs,h0,hK,hs⟩:=runD_states l 0 st h
 have F:=drawOk_facts hok h0 (fun i o ho => by have:=hs i o ho; rw [Nat.zero_add] at this; exact this)
 refine wpIn_region_any hm ?_
 have hr:RelB P cx st a { w with drawn:=w.drawn + 1 } β:=r.world ⟨rfl,rfl,rfl,Nat.le_refl _,fun _ _ _ => rfl,Nat.le_succ _⟩
 have I:DInv P l bars st sts gs cx (Array.replicate l.toArray.size false) a { w with drawn:=w.drawn + 1 } 0 st:={
  size:=by simp
  closed:=fun j o hj => by have:=getD_lt hj; simp at this; simp [this] at hj
  hm:=Nat.zero_le _
  bar:=fun b hb _ => by simp [hb]
  rel:=⟨β,hr⟩
  n:=rfl
  gl:=rfl
  σ:=by rw [h0]
  c:=by rw [h0]
  p:=rfl
  f1:=fun j t hj => by have:=getD_lt hj; simp at this; simp [this] at hj
  f2:=fun _ _ => rfl }
 exact I.run F (fun a' w' r' => k _ _ a' w' hK r') _ _ _ _ _ _ (by simp) 
end draw
end
end
end Go.Proofs.YtpehhhbmobmedaaGreatDoor
