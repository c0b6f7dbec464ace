/- Running code on known values: operations in regions that draw, by the objects that they read and write. -/
import Derived.Test.YtpehhhbmobmedaaGreatDoorEB
namespace Go.Proofs.YtpehhhbmobmedaaGreatDoor
set_option linter.unusedVariables false
set_option linter.unusedSimpArgs false
set_option linter.unusedSectionVars false
open Go.RowKit
section
variable {P:Program}

/-! ### what is read -/
def gcat (f:G → List Nat):List G → List Nat
 | [] => []
 | x :: r => f x ++ gcat f r
theorem gcat_mem {f:G → List Nat} {x:G} {i:Nat}:∀ {l:List G},x ∈ l → i ∈ f x → i ∈ gcat f l
 | y :: r,h,hi => by
  unfold gcat
  rcases List.mem_cons.1 h with rfl | h
  ·exact List.mem_append_left _ hi
  ·exact List.mem_append_right _ (gcat_mem h hi)
def xftL (σ:Sto):Nat → G → List Nat
 | 0,_ => []
 | k + 1,g => match g with
  | .agg l => gcat (xftL σ k) l
  | .tup l => gcat (xftL σ k) l
  | .clo _ a b => gcat (xftL σ k) a ++ gcat (xftL σ k) b
  | .ref i _ => match sget σ i with
   | some ob => i :: gcat (xftL σ k) ob.l
   | none => [i]
  | .rsl i _ _ => match sget σ i with
   | some ob => i :: gcat (xftL σ k) ob.l
   | none => [i]
  | _ => []
theorem xfrz_congrL {σ σ':Sto}:∀ (k:Nat) (g:G),(∀ i,i ∈ xftL σ k g → sget σ' i = sget σ i) → xfrz P σ' k g = xfrz P σ k g
 | 0,g,_ => rfl
 | k + 1,g,h => by
  have ih:=xfrz_congrL (σ:=σ) (σ':=σ') k
  have all:∀ {l:List G},(∀ i,i ∈ gcat (xftL σ k) l → sget σ' i = sget σ i) → ∀ {m:List G},(∀ x ∈ m,x ∈ l) → optAll (xfrz P σ' k) m = optAll (xfrz P σ k) m:=fun h m hm => optAll_congr fun x hx => ih x fun i hi => h i (gcat_mem (hm x hx) hi)
  unfold xfrz
  cases g with
  | agg l =>
   unfold xftL at h
   simp only
   rw [all h fun _ x => x]
  | tup l =>
   unfold xftL at h
   simp only
   rw [all h fun _ x => x]
  | clo fn a b =>
   unfold xftL at h
   simp only
   rw [all (l:=a) (fun i hi => h i (List.mem_append_left _ hi)) fun _ x => x,all (l:=b) (fun i hi => h i (List.mem_append_right _ hi)) fun _ x => x]
  | ref i o =>
   unfold xftL at h
   simp only at h ⊢
   cases ho:sget σ i with
   | none =>
    rw [ho] at h
    rw [h i (by simp),ho]
   | some ob =>
    rw [ho] at h
    simp only at h
    rw [h i (by simp),ho]
    simp only
    rw [all (l:=ob.l) (fun j hj => h j (List.mem_cons_of_mem _ hj)) fun _ x => x]
  | rsl i o n =>
   unfold xftL at h
   simp only at h ⊢
   cases ho:sget σ i with
   | none =>
    rw [ho] at h
    rw [h i (by simp),ho]
   | some ob =>
    rw [ho] at h
    simp only at h
    rw [h i (by simp),ho]
    simp only
    cases hs:tsize P ob.t with
    | none => rfl
    | some s =>
     simp only
     rw [all (l:=ob.l) (fun j hj => h j (List.mem_cons_of_mem _ hj)) (m:=(ob.l.drop o).take (n * s)) fun x hx => List.mem_of_mem_drop (List.mem_of_mem_take hx)]
  | _ => rfl
def rdOf:G → List Nat
 | .ref i _ => [i]
 | .rsl i _ _ => [i]
 | .mref i => [i]
 | _ => []
def xreads (st:St) (o:Oper):List Nat:=match o.op with
 | .load _ x => rdOf (gev st x)
 | .lookup _ x _ _ => rdOf (gev st x)
 | .entry x => match giter st.σ (gev st x) with
  | some (_,_,some j,_,_,_) => j :: rdOf (gev st x)
  | _ => rdOf (gev st x)
 | .convert _ _ x => rdOf (gev st x)
 | .call { callee:=.builtin .len,args:=⟨[x]⟩,argTypes:=_ } => rdOf (gev st x)
 | .call { callee:=.value x,args:=xs,argTypes:=_ } => match gev st x with
  | .clo (.func _) fst cap => gcat (xftL st.σ 30) (fst ++ xs.toList.map (gev st) ++ cap)
  | _ => []
 | _ => []
theorem xreads_free {st:St} {o:Oper} (h:isFree o = true):xreads st o = []:=by
 obtain ⟨dst,op,ty,pos,af,gd⟩:=o
 unfold isFree at h
 unfold xreads
 cases op with
 | call c =>
  obtain ⟨cal,args,ats⟩:=c
  cases cal with
  | builtin b => cases b <;> simp_all
  | value x => simp at h
  | invoke r m => simp at h
 | _ => simp_all
theorem gload_congrL {σ σ':Sto} {t:TypeId} {g:G} (h:∀ i,i ∈ rdOf g → sget σ' i = sget σ i):gload P σ' t g = gload P σ t g:=by
 unfold gload
 split
 ·rw [h _ (List.mem_singleton.2 rfl)]
 ·rfl
 ·rfl
theorem gmap_congrL {σ σ':Sto} {g:G} (h:∀ i,i ∈ rdOf g → sget σ' i = sget σ i):gmap σ' g = gmap σ g:=by
 unfold gmap
 split
 ·rw [h _ (List.mem_singleton.2 rfl)]
 ·rfl
theorem gview_congrL {σ σ':Sto} {s:Nat} {g:G} (h:∀ i,i ∈ rdOf g → sget σ' i = sget σ i):gview σ' s g = gview σ s g:=by
 cases g with
 | rsl j o m =>
  show (sget σ' j).bind _ = (sget σ j).bind _
  rw [h _ (List.mem_singleton.2 rfl)]
 | lit v => unfold gview; split <;> first | rfl | simp_all
 | _ => rfl
theorem giter_congrL {σ σ':Sto} {g:G} (h:∀ i,i ∈ rdOf g → sget σ' i = sget σ i):giter σ' g = giter σ g:=by
 unfold giter
 split
 ·rw [h _ (List.mem_singleton.2 rfl)]
 ·rfl
theorem gmlen_congrL {σ σ':Sto} {t:TypeId} {g:G} (h:∀ i,i ∈ rdOf g → sget σ' i = sget σ i):gmlen P σ' t g = gmlen P σ t g:=by
 have e:=gmap_congrL h
 unfold gmlen
 split
 ·split
  ·rfl
  ·rw [e]
 ·rfl
theorem glookup_congrL {σ σ':Sto} {t:TypeId} {ok:Bool} {g k:G} (h:∀ i,i ∈ rdOf g → sget σ' i = sget σ i):glookup P σ' t ok g k = glookup P σ t ok g k:=by
 have e:=gmap_congrL h
 unfold glookup
 split
 ·split
  ·rfl
  ·rw [e]
 ·rfl
theorem evVal_storeL {ρ:Operand → G} {σ σ':Sto} {o:Oper} (h:∀ t x,o.op = .load t x → ∀ i,i ∈ rdOf (ρ x) → sget σ' i = sget σ i):evVal P ρ σ' o = evVal P ρ σ o:=by
 obtain ⟨dst,op,ty,pos,af,gd⟩:=o
 unfold evVal
 cases op with
 | slice t x lo hi mx => cases mx <;> rfl
 | call c =>
  obtain ⟨cal,args,ats⟩:=c
  cases cal with
  | builtin b => cases b <;> rfl
  | value x => rfl
  | invoke r m => rfl
 | load t x => exact gload_congrL (h t x rfl)
 | _ => rfl
theorem xval_congrL {E:XEnv} {run:XRun} {o:Oper} {st st':St} (hgl:st'.gl = st.gl) (hσ:∀ i,i ∈ xreads st o → sget st'.σ i = sget st.σ i) (hx:∀ x ∈ o.op.operands,gev st' x = gev st x):xval P E run o st' = xval P E run o st:=by
 have hev:(∀ t x,o.op = .load t x → ∀ i,i ∈ rdOf (gev st x) → sget st'.σ i = sget st.σ i) → evVal P (gev st') st'.σ o = evVal P (gev st) st.σ o:=fun h => by
  rw [evVal_congr hx,evVal_storeL h]
 obtain ⟨dst,op,ty,pos,af,gd⟩:=o
 unfold xval
 dsimp only
 split
 ·rename_i t parts
  rw [ops_mem (fun x hx' => hx x (by simpa [Op.operands] using hx'))]
 ·rename_i t x lo hi mx
  rw [hx x (by simp [Op.operands]),hx lo (by simp [Op.operands]),hx hi (by simp [Op.operands]),hx mx (by simp [Op.operands])]
 ·rename_i x xs ats
  have e1:gev st' x = gev st x:=hx x (by simp [Op.operands,Call.operands])
  rw [e1]
  split
  ·rename_i fid fst cap hg
   rw [arg_mem (fun y hy => hx y (by simp [Op.operands,Call.operands,hy])),hgl]
   have hf:xreads st ⟨dst,.call { callee:=.value x,args:=xs,argTypes:=ats },ty,pos,af,gd⟩ = gcat (xftL st.σ 30) (fst ++ xs.toList.map (gev st) ++ cap):=by
    unfold xreads
    simp only [hg]
   rw [hf] at hσ
   rw [optAll_congr (f:=xfrz P st'.σ 30) (g:=xfrz P st.σ 30) fun y hy => xfrz_congrL 30 y fun i hi => hσ i (gcat_mem hy hi)]
  ·rfl
 ·rename_i s t x
  have e1:gev st' x = gev st x:=hx x (by simp [Op.operands])
  rw [e1]
  have hσ':∀ i,i ∈ rdOf (gev st x) → sget st'.σ i = sget st.σ i:=hσ
  unfold xconv
  split
  ·rfl
  ·rfl
  ·rw [gview_congrL hσ']
 ·rename_i x y ats
  rw [hx x (by simp [Op.operands,Call.operands]),hx y (by simp [Op.operands,Call.operands])]
 ·rename_i x y ats
  rw [hx x (by simp [Op.operands,Call.operands]),hx y (by simp [Op.operands,Call.operands])]
 ·rename_i x t
  have e1:gev st' x = gev st x:=hx x (by simp [Op.operands,Call.operands])
  have hσ':∀ i,i ∈ rdOf (gev st x) → sget st'.σ i = sget st.σ i:=hσ
  rw [e1,hev (fun _ _ h => by cases h)]
  rw [gmlen_congrL hσ']
 ·rename_i op t x y t'
  rw [hx x (by simp [Op.operands]),hx y (by simp [Op.operands]),hev (fun _ _ h => by cases h)]
 ·rename_i t x y ok
  have hσ':∀ i,i ∈ rdOf (gev st x) → sget st'.σ i = sget st.σ i:=hσ
  rw [hx x (by simp [Op.operands]),hx y (by simp [Op.operands])]
  rw [glookup_congrL hσ']
 ·rename_i x
  have e1:gev st' x = gev st x:=hx x (by simp [Op.operands])
  rw [e1]
  have hi:giter st'.σ (gev st x) = giter st.σ (gev st x):=giter_congrL fun i hi => hσ i (by
   unfold xreads
   simp only
   split
   ·exact List.mem_cons_of_mem _ hi
   ·exact hi)
  unfold gentry
  rw [hi]
  split
  ·rename_i i t j since seen last hg
   have hm:gmap st'.σ (.mref j) = gmap st.σ (.mref j):=gmap_congrL fun k hk => hσ k (by
    unfold xreads
    simp only [hg]
    obtain rfl:=List.mem_singleton.1 hk
    exact List.mem_cons_self)
   rw [hm]
  ·rfl
 ·rename_i h1 h2 h3 h4 h5 h6 h7 h8 h9
  refine hev fun t x ht i hi => ?_
  have ht':op = .load t x:=ht
  subst ht'
  exact hσ i hi
def gbeq (a b:G):Bool:=match a,b with
 | .lit (.int k x),.lit (.int k' y) => decide (k = k' ∧ x = y)
 | .lit (.bool x),.lit (.bool y) => x == y
 | _,_ => false
theorem gbeq_spec {a b:G} (h:gbeq a b = true):a = b:=by
 unfold gbeq at h
 split at h
 ·obtain ⟨rfl,rfl⟩:=of_decide_eq_true h; rfl
 ·have:=beq_iff_eq.1 h; rw [this]
 ·cases h

/-! ### what is written -/
abbrev XF:=G × Sto × List Nat × Bool × Nat
def isResv (o:Option Ob):Bool:=match o with
 | some ⟨_,_,some .resv⟩ => true
 | _ => false
def isMk (o:Oper):Bool:=match o.op with
 | .alloc _ | .box .. | .buildSlice .. | .makeSlice .. => true
 | .call { callee:=.builtin .append,.. } => true
 | _ => false
def callU (c:Nat) (g:G) (σ1:Sto) (lo:Nat) (R:List Nat):Sto:=bif Nat.ble c lo then xkeep σ1 [] (xmark σ1 c 1000000 [g] []) else (σ1.filter fun q => Nat.ble lo q.1) ++ (R.filter fun i => Nat.ble lo i).map fun i => (i,none)
def xfOne (P:Program) (rs:List ResultVar) (R:List Nat) (c:Nat) (q:Exit × St × Nat):Option XF:=match xend q.1,xres P q.2.1 rs with
 | true,some gs' => some (gtup gs',callU c (gtup gs') q.2.1.σ q.2.2 R,R,true,q.2.1.c)
 | _,_ => none
def xfSame (x y:XF):Bool:=band (Nat.beq x.2.2.2.2 y.2.2.2.2) (band (gEqX 16 x.1 y.1) (band (all2 (slotEq 16) x.2.1 y.2.1) (band (natsEq x.2.2.1 y.2.2.1) (bif x.2.2.2.1 then y.2.2.2.1 else !y.2.2.2.1))))
theorem xfSame_spec {x y:XF} (h:xfSame x y = true):x = y:=by
 obtain ⟨h1,h2⟩:=band_spec h
 obtain ⟨h2,h3⟩:=band_spec h2
 obtain ⟨h3,h4⟩:=band_spec h3
 obtain ⟨h4,h5⟩:=band_spec h4
 obtain ⟨a,b,c,d,e⟩:=x
 obtain ⟨a',b',c',d',e'⟩:=y
 refine Prod.ext (gEqX_spec 16 _ _ h2) (Prod.ext (all2_spec (fun _ _ => slotEq_spec) h3) (Prod.ext (natsEq_spec h4) (Prod.ext ?_ (Nat.eq_of_beq_eq_true h1))))
 show d = d'
 dsimp only at h5
 cases d <;> cases d' <;> simp_all
def xfAll (P:Program) (rs:List ResultVar) (R:List Nat) (c:Nat) (l:List (Exit × St × Nat)):Option XF:=match l with
 | [] => none
 | [q] => xfOne P rs R c q
 | q :: r => match xfOne P rs R c q with
  | some x => bif r.all fun q' => match xfOne P rs R c q' with
   | some y => xfSame y x
   | none => false then some x else none
  | none => none
theorem xfAll_spec {rs:List ResultVar} {R:List Nat} {c:Nat} {l:List (Exit × St × Nat)} {x:XF} (h:xfAll P rs R c l = some x):∀ q ∈ l,xfOne P rs R c q = some x:=by
 unfold xfAll at h
 split at h
 ·cases h
 ·intro q hq
  obtain rfl:=List.mem_singleton.1 hq
  exact h
 ·rename_i q r _
  split at h
  ·rename_i x' hx
   cases hc:r.all (fun q' => match xfOne P rs R c q' with
    | some y => xfSame y x'
    | none => false) with
   | false => rw [hc] at h; cases h
   | true =>
    rw [hc] at h
    cases h
    intro q' hq'
    rcases List.mem_cons.1 hq' with rfl | hq'
    ·exact hx
    ·have:=List.all_eq_true.1 hc q' hq'
     split at this
     ·rename_i y hy
      rw [hy,xfSame_spec this]
     ·cases this
  ·cases h
def xcallFR (P:Program) (run:XRun) (fid:FuncId) (gs:List G) (gl:List (Nat × List G)) (R:List Nat) (σR:Sto) (c:Nat):Option XF:=match P.funcs[fid]? with
 | some fn => match fn.body with
  | some body => bif callable P fid && Nat.ble gs.length fn.ntmps then
    (match run body ⟨fn.ntmps,gl,enterFr 0 gs,σR,c,c,false⟩ noLow with
    | some l => xfAll P fn.results.toList R c l
    | none => none)
   else none
  | none => none
 | none => none
def xcallF (P:Program) (run:XRun) (fid:FuncId) (gs:List G) (st:St):Option XF:=(fun R => xcallFR P run fid gs st.gl R (R.map fun i => (i,sget st.σ i)) st.c) (xmark st.σ 0 1000000 gs [])
def xeffF (P:Program) (run:XRun) (o:Oper) (st:St) (k:Nat):Option XF :=
 match o.op with
 | .buildSlice t m parts => bif isResv (sget st.σ k) && Nat.ble st.p k then (gbs P t m (parts.toList.map fun q => (q.1,gev st q.2))).map fun (e,l) => (.rsl k 0 m,[(k,some ⟨e,l,none⟩)],[k],false,st.c) else none
 | .makeSlice t x y => bif isResv (sget st.σ k) && Nat.ble st.p k then (gmake P t (gev st x) (gev st y)).map fun (e,l,n) => (.rsl k 0 n,[(k,some ⟨e,l,none⟩)],[k],false,st.c) else none
 | .box t x => bif isResv (sget st.σ k) && Nat.ble st.p k then (gbox P t (gev st x)).map fun l => (.ref k 0,[(k,some ⟨t,l,none⟩)],[k],false,st.c) else none
 | .alloc t => bif isResv (sget st.σ k) && Nat.ble st.p k then (galloc P t).map fun l => (.ref k 0,[(k,some ⟨t,l,none⟩)],[k],false,st.c) else none
 | .call { callee:=.builtin .append,args:=⟨[x,y]⟩,argTypes:=⟨[t,u]⟩ } => bif isResv (sget st.σ k) && Nat.ble st.p k then (match gev st x with
  | .rsl i 0 _ => if t = u then (gapp P st.σ st.c t (gev st x) (gev st y)).map fun (e,i',m,l) => (.rsl k 0 m,[(k,some ⟨e,l,none⟩),(i',none)],k :: i :: rdOf (gev st y),false,st.c) else none
  | .lit (.slice none 0 0) => if t = u then (gapp P st.σ st.c t (gev st x) (gev st y)).map fun (e,_,m,l) => (.rsl k 0 m,[(k,some ⟨e,l,none⟩)],k :: rdOf (gev st y),false,st.c) else none
  | _ => none) else none
 | .store t x y => (gsto P st.σ t (gev st x) (gev st y)).map fun (i,ob) => (.lit undef,[(i,some ob)],rdOf (gev st x),false,st.c)
 | .call { callee:=.value x,args:=xs,argTypes:=_ } => match gev st x with
  | .clo (.func fid) fst cap => xcallF P run fid (fst ++ xs.toList.map (gev st) ++ cap) st
  | _ => none
 | .mapUpdate t x y z => (gmapPut P st.σ t (gev st x) (gev st y) (gev st z)).map fun (i,ob) => (.lit undef,[(i,some ob)],rdOf (gev st x),false,st.c)
 | .insert t x y z => (gmapPut P st.σ t (gev st x) (gev st y) (gev st z)).map fun (i,ob) => (.lit undef,[(i,some ob)],rdOf (gev st x),false,st.c)
 | .mapEntry t x y => (gmapEntry P st.σ t (gev st x) (gev st y)).map fun (i,ob,g) => (g,[(i,some ob)],rdOf (gev st x),false,st.c)
 | .entryStore _ x y z => (gentryStore st.σ (gev st x) (gev st y) (gev st z)).map fun (i,ob) => (.lit undef,[(i,some ob)],rdOf (gev st x),false,st.c)
 | _ => none
def BGF (P:Program) (o:Oper) (st:St) (g:G) (U:Sto) (R:List Nat) (cu:Bool) (c:Nat):Prop:=∀ st'',st''.n = st.n → st''.gl = st.gl → st''.pr = st.pr → (cu = true → st''.c = st.c) → (∀ x ∈ R,sget st''.σ x = sget st.σ x) → (∀ x ∈ o.op.operands,gev st'' x = gev st x) → GS P o st'' ({ st'' with σ:=U ++ st''.σ,c:=if cu then c else st''.c }.put o.dst g)
theorem gs_lay {o:Oper} {st:St} {d:Option Tmp} {g:G} {σ:Sto} {U:Sto} {c:Nat} (h:GS P o st ({ st with σ:=σ,c:=st.c }.put d g)) (hσ:∀ i,sget (U ++ st.σ) i = sget σ i):GS P o st ({ st with σ:=U ++ st.σ,c:=if false then c else st.c }.put d g) :=
 h.eqv (eqv_put (eqv_two hσ rfl) _ _)
theorem isResv_spec {o:Option Ob} (h:isResv o = true):∃ ob,o = some ob ∧ ob.x = some .resv:=by
 unfold isResv at h
 split at h
 ·exact ⟨_,rfl,rfl⟩
 ·cases h
theorem plOk_of {st st'':St} {k:Nat} (h:(isResv (sget st.σ k) && Nat.ble st.p k) = true) (hp:st''.pr = st.pr) (hk:sget st''.σ k = sget st.σ k):plOk st'' (some k):=by
 simp only [Bool.and_eq_true] at h
 simp only [St.pr,Prod.mk.injEq] at hp
 obtain ⟨ob,h1,h2⟩:=isResv_spec h.1
 exact ⟨by rw [hp.1]; exact Nat.le_of_ble_eq_true h.2,ob,by rw [hk]; exact h1,h2⟩
theorem two_same {σ:Sto} {k:Nat} {ob:Option Ob} (i:Nat):sget ([(k,ob)] ++ σ) i = sget ((k,ob) :: (k,none) :: σ) i:=by
 simp only [List.singleton_append,sget_cons]
 split <;> rfl
theorem sget_map {f:Nat → Option Ob} {i:Nat}:∀ {l:List Nat},sget (l.map fun i => (i,f i)) i = if i ∈ l then f i else none
 | [] => by simp [sget]
 | x :: r => by
  rw [List.map_cons,sget_cons]
  by_cases e:x = i
  ·subst e; simp
  ·rw [if_neg e,sget_map (l:=r)]
   have:i ≠ x:=fun h => e h.symm
   simp [this]
theorem sget_filter {σ:Sto} {lo i:Nat} {o:Ob} (h:sget (σ.filter fun q => Nat.ble lo q.1) i = some o):sget σ i = some o:=by
 induction σ with
 | nil => exact h
 | cons x r ih =>
  obtain ⟨d,ob⟩:=x
  rw [List.filter_cons] at h
  rw [sget_cons]
  split at h
  ·rw [sget_cons] at h
   split
   ·rename_i e; rw [if_pos e] at h; exact h
   ·rename_i e; rw [if_neg e] at h; exact ih h
  ·rename_i hf
   split
   ·rename_i e
    subst e
    exfalso
    have:∀ (τ:Sto),sget (τ.filter fun q => Nat.ble lo q.1) d = some o → Nat.ble lo d = true:=by
     intro τ
     induction τ with
     | nil => intro h; cases h
     | cons y s ih2 =>
      intro h
      rw [List.filter_cons] at h
      split at h
      ·rename_i hb
       rw [sget_cons] at h
       split at h
       ·rename_i e; rw [← e]; exact hb
       ·exact ih2 h
      ·exact ih2 h
    exact hf (this r h)
   ·exact ih h
theorem xcallF_bg {run:XRun} (hr:RunOk P run) {o:Oper} {st:St} {x:Operand} {xs:Array Operand} {ats:Array TypeId} {fid:FuncId} {fst cap:List G} {g:G} {U:Sto} {R:List Nat} {cu:Bool} {c:Nat} (ho:o.op = .call { callee:=.value x,args:=xs,argTypes:=ats }) (hd:∀ d,o.dst = some d → d < st.n) (hx:gev st x = .clo (.func fid) fst cap)
  (h:xcallF P run fid (fst ++ xs.toList.map (gev st) ++ cap) st = some (g,U,R,cu,c)):BGF P o st g U R cu c:=by
 unfold xcallF xcallFR at h
 dsimp only at h
 split at h
 ·rename_i fn hfn
  split at h
  ·rename_i body hb
   cases hcond:(callable P fid && Nat.ble (fst ++ xs.toList.map (gev st) ++ cap).length fn.ntmps) with
   | false => rw [hcond] at h; cases h
   | true =>
    rw [hcond] at h
    simp only [Bool.and_eq_true] at hcond
    simp only [cond_true] at h
    split at h
    ·rename_i m hm
     generalize hRR:xmark st.σ 0 1000000 (fst ++ xs.toList.map (gev st) ++ cap) [] = R0 at hm h
     have hall:=xfAll_spec h
     have hne:∃ q,q ∈ m:=by
      cases m with
      | nil => cases h
      | cons q r => exact ⟨q,List.mem_cons_self⟩
     have one:∀ q ∈ m,∃ gs',xend q.1 = true ∧ xres P q.2.1 fn.results.toList = some gs' ∧ g = gtup gs' ∧ U = callU st.c (gtup gs') q.2.1.σ q.2.2 R0 ∧ R = R0 ∧ cu = true ∧ c = q.2.1.c:=fun q hq => by
      have:=hall q hq
      unfold xfOne at this
      split at this
      ·rename_i gs' h1 h2
       simp only [Option.some.injEq,Prod.mk.injEq] at this
       obtain ⟨a1,a2,a3,a4,a5⟩:=this
       exact ⟨gs',h1,h2,a1.symm,a2.symm,a3.symm,a4.symm,a5.symm⟩
      ·cases this
     obtain ⟨q0,hq0⟩:=hne
     obtain ⟨_,_,_,_,_,hR,hcu,_⟩:=one q0 hq0
     subst hR hcu
     intro st'' e1 e2 e3 e4 e5 e6
     have e4':=e4 rfl
     have hop:∀ y ∈ o.op.operands,gev st'' y = gev st y:=e6
     have hx'':gev st'' x = .clo (.func fid) fst cap:=(e6 x (by rw [ho]; simp [Op.operands,Call.operands])).trans hx
     have hargs:xs.toList.map (gev st'') = xs.toList.map (gev st):=arg_mem fun y hy => e6 y (by rw [ho]; simp [Op.operands,Call.operands,hy])
     have hσR:(R.map fun i => (i,sget st''.σ i)) = R.map fun i => (i,sget st.σ i):=List.map_congr_left fun i hi => by rw [e5 i hi]
     have hT:=hr.tr _ _ _ _ hm
     refine (gsn_callF (st:=st'') (T:=fun _ _ τ => τ = U ++ st''.σ) (R.map fun i => (i,sget st''.σ i)) (fun i ob hi => ?_) ho (by rw [e1]; exact hd) hx'' hcond.1 hfn hb (by rw [hargs]; exact Nat.le_of_ble_eq_true hcond.2) (by rw [hargs,hσR,e2,e4']; exact hT) (fun e' s' hp => ?_) (fun hbd e' s' hp => ?_)).gs ?_
     ·rw [sget_map] at hi
      split at hi
      ·exact hi
      ·cases hi
     ·obtain ⟨q,hq,rfl,he⟩:=hp
      obtain ⟨gs',h1,h2,_⟩:=one q hq
      refine ⟨xend_spec h1,?_,gs',by rw [← he.res]; exact xres_spec h2⟩
      have:=(hr.inv _ _ _ _ hm q hq).1
      rw [e2]
      exact he.gl.symm.trans this
     ·obtain ⟨⟨e0,s1,lo⟩,hq,rfl,he⟩:=hp
      obtain ⟨gs',h1,h2,_,hU,_⟩:=one _ hq
      obtain ⟨_,_,hlow⟩:=hr.inv _ _ _ _ hm _ hq
      dsimp only at he hU hlow
      refine ⟨_,rfl,fun i ob hi => ?_⟩
      rw [hU] at hi
      rcases sget_append_some hi with hi | ⟨hni,hi⟩
      ·left
       rw [← he.σ]
       unfold callU at hi
       cases hb2:Nat.ble st.c lo with
       | true =>
        rw [hb2] at hi
        rcases sget_xkeep (σ:=s1.σ) (σ0:=[]) (xmark s1.σ st.c 1000000 [gtup gs'] []) i with h7 | h7
        ·rw [← h7]; exact hi
        ·simp only [cond_true] at hi
         rw [h7] at hi; cases hi
       | false =>
        rw [hb2] at hi
        simp only [cond_false] at hi
        rcases sget_append_some hi with hi | ⟨_,hi⟩
        ·exact sget_filter hi
        ·rw [sget_map (f:=fun _ => none)] at hi
         split at hi <;> cases hi
      ·by_cases hiR:i ∈ R
       ·left
        have hlt:i < lo:=by
         unfold callU at hni
         cases hb2:Nat.ble st.c lo with
         | true =>
          have:=hbd i ob hi
          have:=Nat.le_of_ble_eq_true hb2
          omega
         | false =>
          rw [hb2] at hni
          rcases Nat.lt_or_ge i lo with h8 | h8
          ·exact h8
          ·exfalso
           apply hni
           simp only [cond_false,List.map_append,List.map_map]
           refine List.mem_append_right _ (List.mem_map.2 ⟨i,List.mem_filter.2 ⟨hiR,Nat.ble_eq_true_of_le h8⟩,rfl⟩)
        rw [← he.σ]
        rw [hlow i hlt]
        show sget (R.map fun i => (i,sget st.σ i)) i = some ob
        rw [sget_map,if_pos hiR,← e5 i hiR]
        exact hi
       ·right
        refine ⟨hi,?_⟩
        rw [sget_map,if_neg hiR]
     ·rintro s' ⟨e',s2,gs2,τ,hp,hgs,rfl,rfl⟩
      obtain ⟨q,hq,rfl,he⟩:=hp
      obtain ⟨gs',h1,h2,hg,_,_,_,hc⟩:=one q hq
      rw [← he.res,xres_spec h2] at hgs
      cases hgs
      rw [hg,hc,he.c]
      rfl
    ·cases h
  ·cases h
 ·cases h
theorem gapp_nil {σ σ':Sto} {c c':Nat} {t:TypeId} {gx gy:G} {e:TypeId} {i m:Nat} {l:List G} (hx:gx = .lit (.slice none 0 0)) (hσ:∀ j,j ∈ rdOf gy → sget σ' j = sget σ j) (h:gapp P σ c t gx gy = some (e,i,m,l)):gapp P σ' c' t gx gy = some (e,c',m,l):=by
 subst hx
 simp only [gapp,Option.bind_eq_some_iff] at h ⊢
 obtain ⟨e',he,s,hs,zs,hz,b,hb,⟨i',n,l'⟩,hg,⟨news,m'⟩,hv,h⟩:=h
 simp only [gsrc,Option.some.injEq,Prod.mk.injEq] at hg
 obtain ⟨rfl,rfl,rfl⟩:=hg
 refine ⟨e',he,s,hs,zs,hz,b,hb,(c',0,[]),rfl,(news,m'),by rw [gview_congrL hσ]; exact hv,?_⟩
 split at h
 ·rename_i hc
  rw [if_pos hc]
  cases h
  rfl
 ·cases h
theorem gapp_row {σ σ':Sto} {c c':Nat} {t:TypeId} {gx gy:G} {j n:Nat} (hx:gx = .rsl j 0 n) (hj:sget σ' j = sget σ j) (hσ:∀ j,j ∈ rdOf gy → sget σ' j = sget σ j):gapp P σ' c' t gx gy = gapp P σ c t gx gy:=by
 subst hx
 have e:∀ e s,gsrc σ' c' e s (.rsl j 0 n) = gsrc σ c e s (.rsl j 0 n):=fun e s => by
  simp only [gsrc,hj]
 unfold gapp
 simp only [e,gview_congrL hσ]
theorem GS.bound {o:Oper} {st s s':St} (h:GS P o st s) (hs:(∀ i ob,sget st.σ i = some ob → i < st.c) → Sub s s'):GS P o st s' :=
 (GSn.sub (S:=fun x => x = s) (T:=fun x => x = s') h.gsn fun hb x hx => ⟨s',rfl,by rw [hx]; exact hs hb⟩).gs fun x hx => hx
theorem xeffF_bg {run:XRun} (hr:RunOk P run) {o:Oper} {st:St} {k:Nat} {g:G} {U:Sto} {R:List Nat} {cu:Bool} {c:Nat} (hd:∀ d,o.dst = some d → d < st.n) (h:xeffF P run o st k = some (g,U,R,cu,c)):BGF P o st g U R cu c ∧ (cu = false → c = st.c):=by
 obtain ⟨dst,op,ty,pos,af,gd⟩:=o
 unfold xeffF at h
 dsimp only at h
 split at h
 ·rename_i t m parts
  cases hk:(isResv (sget st.σ k) && Nat.ble st.p k) with
  | false => rw [hk] at h; cases h
  | true =>
   rw [hk] at h
   simp only [cond_true,Option.map_eq_some_iff] at h
   obtain ⟨⟨e,l⟩,hg,h⟩:=h
   cases h
   refine ⟨fun st'' e1 e2 e3 e4 e5 e6 => ?_,fun _ => rfl⟩
   exact gs_lay (gs_bsP (pl:=some k) rfl (by rw [e1]; exact hd) (by rw [ops_mem (fun x hx' => e6 x (by simpa [Op.operands] using hx'))]; exact hg) (plOk_of hk e3 (e5 k (by simp)))) two_same
 ·rename_i t x y
  cases hk:(isResv (sget st.σ k) && Nat.ble st.p k) with
  | false => rw [hk] at h; cases h
  | true =>
   rw [hk] at h
   simp only [cond_true,Option.map_eq_some_iff] at h
   obtain ⟨⟨e,l,n⟩,hg,h⟩:=h
   cases h
   refine ⟨fun st'' e1 e2 e3 e4 e5 e6 => ?_,fun _ => rfl⟩
   exact gs_lay (gs_makeP (pl:=some k) rfl (by rw [e1]; exact hd) (by rw [e6 x (by simp [Op.operands]),e6 y (by simp [Op.operands])]; exact hg) (plOk_of hk e3 (e5 k (by simp)))) two_same
 ·rename_i t x
  cases hk:(isResv (sget st.σ k) && Nat.ble st.p k) with
  | false => rw [hk] at h; cases h
  | true =>
   rw [hk] at h
   simp only [cond_true,Option.map_eq_some_iff] at h
   obtain ⟨l,hg,h⟩:=h
   cases h
   simp only [gbox,Option.bind_eq_some_iff] at hg
   obtain ⟨l',h1,s,h2,hg⟩:=hg
   split at hg
   ·simp only [Option.some.injEq] at hg
    subst hg
    refine ⟨fun st'' e1 e2 e3 e4 e5 e6 => ?_,fun _ => rfl⟩
    exact gs_lay (gs_boxP (pl:=some k) rfl (by rw [e1]; exact hd) (by rw [e6 x (by simp [Op.operands])]; exact h1) (by rw [tsz_of h2]; assumption) (plOk_of hk e3 (e5 k (by simp)))) two_same
   ·cases hg
 ·rename_i t
  cases hk:(isResv (sget st.σ k) && Nat.ble st.p k) with
  | false => rw [hk] at h; cases h
  | true =>
   rw [hk] at h
   simp only [cond_true,Option.map_eq_some_iff] at h
   obtain ⟨l,hg,h⟩:=h
   cases h
   simp only [galloc,Option.bind_eq_some_iff] at hg
   obtain ⟨zs,h1,s,h2,hg⟩:=hg
   split at hg
   ·simp only [Option.some.injEq] at hg
    subst hg
    refine ⟨fun st'' e1 e2 e3 e4 e5 e6 => ?_,fun _ => rfl⟩
    exact gs_lay (gs_allocP (pl:=some k) rfl (by rw [e1]; exact hd) h1 (by rw [tsz_of h2]; assumption) (plOk_of hk e3 (e5 k (by simp)))) two_same
   ·cases hg
 ·rename_i x y t u
  cases hk:(isResv (sget st.σ k) && Nat.ble st.p k) with
  | false => rw [hk] at h; cases h
  | true =>
   rw [hk] at h
   simp only [cond_true] at h
   split at h
   ·rename_i i n hx
    split at h
    ·rename_i htu
     subst htu
     simp only [Option.map_eq_some_iff] at h
     obtain ⟨⟨e,i',m,l⟩,hg,h⟩:=h
     cases h
     refine ⟨fun st'' e1 e2 e3 e4 e5 e6 => ?_,fun _ => rfl⟩
     have f1:=e6 x (by simp [Op.operands,Call.operands])
     have f2:=e6 y (by simp [Op.operands,Call.operands])
     refine gs_lay (gs_appP (pl:=some k) rfl (by rw [e1]; exact hd) (i:=i') (l:=l) (m:=m) (e:=e) ?_ (plOk_of hk e3 (e5 k (by simp)))) fun j => ?_
     ·rw [f1,f2,gapp_row (σ:=st.σ) (c:=st.c) hx (e5 i (by simp)) (fun j hj => e5 j (by simp [hj]))]
      exact hg
     ·rfl
    ·cases h
   ·rename_i hx
    split at h
    ·rename_i htu
     subst htu
     simp only [Option.map_eq_some_iff] at h
     obtain ⟨⟨e,i',m,l⟩,hg,h⟩:=h
     cases h
     refine ⟨fun st'' e1 e2 e3 e4 e5 e6 => ?_,fun _ => rfl⟩
     have f1:=e6 x (by simp [Op.operands,Call.operands])
     have f2:=e6 y (by simp [Op.operands,Call.operands])
     refine GS.bound (gs_appP (pl:=some k) rfl (by rw [e1]; exact hd) (i:=st''.c) (l:=l) (m:=m) (e:=e) ?_ (plOk_of hk e3 (e5 k (by simp)))) fun hb => sub_put (sub_two (st:=st'') (fun j ob hj => ?_) rfl) _ _
     ·rw [f1,f2]
      exact gapp_nil hx (fun j hj => e5 j (by simp [hj])) hg
     ·have hj':sget ([(k,some ⟨e,l,none⟩)] ++ st''.σ) j = some ob:=hj
      show sget ((k,some ⟨e,l,none⟩) :: (st''.c,none) :: st''.σ) j = some ob
      rw [List.singleton_append,sget_cons] at hj'
      rw [sget_cons]
      split
      ·rename_i ej; rw [if_pos ej] at hj'; exact hj'
      ·rename_i ej
       rw [if_neg ej] at hj'
       rw [sget_cons,if_neg (fun ec => by have:=hb j ob hj'; omega)]
       exact hj'
    ·cases h
   ·cases h
 ·rename_i t x y
  simp only [Option.map_eq_some_iff] at h
  obtain ⟨⟨i,ob⟩,hg,h⟩:=h
  cases h
  refine ⟨fun st'' e1 e2 e3 e4 e5 e6 => ?_,fun _ => rfl⟩
  refine gs_lay (gs_sto (i:=i) (ob:=ob) rfl (by rw [e1]; exact hd) ?_) fun _ => rfl
  rw [e6 x (by simp [Op.operands]),e6 y (by simp [Op.operands])]
  have:gsto P st''.σ t (gev st x) (gev st y) = gsto P st.σ t (gev st x) (gev st y):=by
   unfold gsto
   split
   ·rename_i i k hx
    rw [e5 i (by rw [hx]; exact List.mem_singleton.2 rfl)]
   ·rfl
  rw [this]; exact hg
 ·rename_i x xs ats
  split at h
  ·rename_i fid fst cap hx
   have hcu:cu = true:=by
    unfold xcallF xcallFR at h
    dsimp only at h
    split at h
    ·split at h
     ·cases hcond:(callable P fid && Nat.ble (fst ++ xs.toList.map (gev st) ++ cap).length _) with
      | false => rw [hcond] at h; cases h
      | true =>
       rw [hcond] at h
       simp only [cond_true] at h
       split at h
       ·rename_i m _
        have hall:=xfAll_spec h
        cases m with
        | nil => cases h
        | cons q r =>
         have:=hall q List.mem_cons_self
         unfold xfOne at this
         split at this
         ·simp only [Option.some.injEq,Prod.mk.injEq] at this
          exact this.2.2.2.1.symm
         ·cases this
       ·cases h
     ·cases h
    ·cases h
   exact ⟨xcallF_bg hr rfl hd hx h,fun hf => by rw [hcu] at hf; cases hf⟩
  ·cases h
 ·rename_i t x y z
  simp only [Option.map_eq_some_iff] at h
  obtain ⟨⟨i,ob⟩,hg,h⟩:=h
  cases h
  refine ⟨fun st'' e1 e2 e3 e4 e5 e6 => ?_,fun _ => rfl⟩
  refine gs_lay (gs_mapUpdate (i:=i) (ob:=ob) (.inl rfl) (by rw [e1]; exact hd) ?_) fun _ => rfl
  rw [e6 x (by simp [Op.operands]),e6 y (by simp [Op.operands]),e6 z (by simp [Op.operands])]
  unfold gmapPut at hg ⊢
  rw [gmap_congrL (fun j hj => e5 j hj)]
  exact hg
 ·rename_i t x y z
  simp only [Option.map_eq_some_iff] at h
  obtain ⟨⟨i,ob⟩,hg,h⟩:=h
  cases h
  refine ⟨fun st'' e1 e2 e3 e4 e5 e6 => ?_,fun _ => rfl⟩
  refine gs_lay (gs_mapUpdate (i:=i) (ob:=ob) (.inr rfl) (by rw [e1]; exact hd) ?_) fun _ => rfl
  rw [e6 x (by simp [Op.operands]),e6 y (by simp [Op.operands]),e6 z (by simp [Op.operands])]
  unfold gmapPut at hg ⊢
  rw [gmap_congrL (fun j hj => e5 j hj)]
  exact hg
 ·rename_i t x y
  simp only [Option.map_eq_some_iff] at h
  obtain ⟨⟨i,ob,g'⟩,hg,h⟩:=h
  cases h
  refine ⟨fun st'' e1 e2 e3 e4 e5 e6 => ?_,fun _ => rfl⟩
  refine gs_lay (gs_mapEntry (i:=i) (ob:=ob) rfl (by rw [e1]; exact hd) ?_) fun _ => rfl
  rw [e6 x (by simp [Op.operands]),e6 y (by simp [Op.operands])]
  unfold gmapEntry at hg ⊢
  rw [gmap_congrL (fun j hj => e5 j hj)]
  exact hg
 ·rename_i t x y z
  simp only [Option.map_eq_some_iff] at h
  obtain ⟨⟨i,ob⟩,hg,h⟩:=h
  cases h
  refine ⟨fun st'' e1 e2 e3 e4 e5 e6 => ?_,fun _ => rfl⟩
  refine gs_lay (gs_entryStore (i:=i) (ob:=ob) rfl (by rw [e1]; exact hd) ?_) fun _ => rfl
  rw [e6 x (by simp [Op.operands]),e6 y (by simp [Op.operands]),e6 z (by simp [Op.operands])]
  unfold gentryStore at hg ⊢
  rw [gmap_congrL (fun j hj => e5 j hj)]
  exact hg
 ·cases h
end
end Go.Proofs.YtpehhhbmobmedaaGreatDoor
