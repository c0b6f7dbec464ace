/- A machine of values over the model: a region that draws, by what is true behind each set of its operations. -/
import Derived.Test.YtpehhhbmobmedaaGreatDoorFB
import Derived.Test.YtpehhhbmobmedaaGreatDoorKC
import Derived.Test.YtpehhhbmobmedaaGreatDoorGX
namespace Go.Proofs.YtpehhhbmobmedaaGreatDoor
set_option linter.unusedVariables false
set_option linter.unusedSimpArgs false
set_option linter.unusedSectionVars false
section
open Go.RowKit
section
variable {P:Program} {l:List Oper} {cx:Cx} {Q:Exit → Act → World → Prop}
abbrev Dn:=Nat → Bool
def dn (L:Array Bool):Dn:=fun i => L.getD i false
def Dn.add (D:Dn) (j:Nat):Dn:=fun i => if j = i then true else D i
theorem anyI_run {I:Dn → St → Prop} (hg:∀ (j:Nat) (o:Oper),l[j]? = some o → o.guard = none)
  (hed:∀ (j:Nat) (o:Oper),l[j]? = some o → ∀ e ∈ o.after,Region.binds .any e = true → e.on < j)
  (hs:∀ (D:Dn) (s:St) (j:Nat) (o:Oper),I D s → l[j]? = some o → D j = false → (∀ e ∈ o.after,Region.binds .any e = true → D e.on = true) → GSn P o s (fun s' => I (D.add j) s'))
  (hq:∀ D s a w,I D s → (∀ j,j < l.length → D j = true) → Rel P cx s a w → Q .normal a w) :
  ∀ (fuel:Nat) (L:Array Bool) (a:Act) (w:World) (s:St),L.toList.count false ≤ fuel → L.size = l.length → I (dn L) s → Rel P cx s a w → wpAnyIn cx.F cx.nn P .any l.toArray Q fuel L a w:=by
 have empty:∀ (L:Array Bool),L.size = l.length → Region.ready .any l.toArray L = [] → ∀ j,j < l.length → L.getD j false = true:=by
  intro L hsz hr j
  induction j using Nat.strongRecOn with
  | _ j ih =>
   intro hj
   cases h:L.getD j false with
   | true => rfl
   | false =>
    have:j ∈ Region.ready .any l.toArray L:=by
     rw [mem_ready]
     have ho:l[j]? = some (l[j]'hj):=List.getElem?_eq_getElem hj
     refine ⟨?_,l[j]'hj,by simp,fun e he hbe => ?_⟩
     ·have hs:j < L.size:=by rw [hsz]; exact hj
      simp [hs] at h ⊢; exact h
     ·have:=hed j _ ho e he hbe
      exact ih e.on this (by omega)
    rw [hr] at this
    cases this
 intro fuel
 induction fuel with
 | zero =>
  intro L a w s hc hsz hI R
  have hall:∀ j,j < l.length → L.getD j false = true:=by
   intro j hj
   have hs:j < L.size:=by rw [hsz]; exact hj
   have h0:L.toList.count false = 0:=by omega
   rw [List.count_eq_zero] at h0
   cases h:L.getD j false with
   | true => rfl
   | false =>
    simp [hs] at h
    exact absurd (by rw [← h]; simp:false ∈ L.toList) h0
  refine ⟨?_,hq _ s a w hI hall R⟩
  cases hr:Region.ready .any l.toArray L with
  | nil => rfl
  | cons x xs =>
   have hx:x ∈ Region.ready .any l.toArray L:=by rw [hr]; simp
   obtain ⟨h1,o,ho,_⟩:=mem_ready.1 hx
   have hxl:x < l.length:=by have:=(Array.getElem?_eq_some_iff.1 ho).1; simpa using this
   have hs:x < L.size:=by rw [hsz]; exact hxl
   have:=hall x hxl
   simp [hs] at h1 this
   rw [h1] at this; cases this
 | succ fuel ih =>
  intro L a w s hc hsz hI R
  refine ⟨fun hr => hq _ s a w hI (empty L hsz hr) R,fun j hj => ?_⟩
  obtain ⟨h1,o,ho',hr⟩:=mem_ready.1 hj
  have ho:l[j]? = some o:=by simpa using ho'
  have hjl:=(List.getElem?_eq_some_iff.1 ho).1
  have hs':j < L.size:=by rw [hsz]; exact hjl
  have hL:L.getD j false = false:=by simp [hs'] at h1 ⊢; exact h1
  have hcnt:(L.setIfInBounds j true).toList.count false ≤ fuel:=by
   have:=count_set L.toList j (by simp [hs'] at h1; simp [hs',h1])
   rw [Array.toList_setIfInBounds]
   omega
  have hD:dn (L.setIfInBounds j true) = (dn L).add j:=by
   funext i
   exact getD_set hs'
  unfold wpOpIn
  simp only [ho']
  obtain ⟨β,rb⟩:=R
  have hw:gwant s l.toArray o = some true:=by
   unfold gwant
   rw [hg j o ho]
  rw [if_pos (gwant_spec rb hw)]
  refine hs (dn L) s j o hI ho hL hr cx a w _ Q ⟨β,rb⟩ fun s' hs2 a' w' r' => ?_
  exact ih _ a' w' s' hcnt (by simp [hsz]) (by rw [hD]; exact hs2) r'
theorem tr_region_inv {id:Nat} {st:St} {Q:Exit → St → Prop} (hm:P.follows .mixedOrders = true) (I:Dn → St → Prop) (hg:∀ (j:Nat) (o:Oper),l[j]? = some o → o.guard = none)
  (hed:∀ (j:Nat) (o:Oper),l[j]? = some o → ∀ e ∈ o.after,Region.binds .any e = true → e.on < j) (h0:I (fun _ => false) st)
  (hs:∀ (D:Dn) (s:St) (j:Nat) (o:Oper),I D s → l[j]? = some o → D j = false → (∀ e ∈ o.after,Region.binds .any e = true → D e.on = true) → GSn P o s (fun s' => I (D.add j) s'))
  (hq:∀ D s,I D s → (∀ j,j < l.length → D j = true) → Q .normal s):Tr P (.region id l.toArray true) st Q:=fun cx a w R ⟨β,r⟩ k => by
 refine wpIn_region_any hm ?_
 have hr:RelB P cx st a { w with drawn:=w.drawn + 1 } β:=r.world ⟨rfl,rfl,rfl,Nat.le_refl _,fun _ _ _ => rfl,Nat.le_succ _⟩
 have hno:dn (Array.replicate l.toArray.size false) = fun _ => false:=by
  funext i
  show (Array.replicate l.toArray.size false).getD i false = false
  rw [Array.getD_eq_getD_getElem?]
  cases hx:(Array.replicate l.toArray.size false)[i]? with
  | none => rfl
  | some b => rw [Array.getElem?_replicate] at hx; split at hx <;> cases hx; rfl
 refine anyI_run (cx:=cx) (I:=I) hg hed hs (fun D s a' w' hI hall r' => k .normal s a' w' (hq D s hI hall) r') _ _ _ _ st ?_ (by simp) (by rw [hno]; exact h0) ⟨β,hr⟩
 simp
end
end
section
open Go.RowKit
section
variable {P:Program}
def dstTo (o:Oper) (t:Tmp):Bool:=match o.dst with
 | some d => Nat.beq d t
 | none => false
theorem dstTo_iff {o:Oper} {t:Tmp}:dstTo o t = true ↔ o.dst = some t:=by
 unfold dstTo
 split
 ·rename_i d hd
  rw [hd]
  exact ⟨(fun h => by rw [Nat.eq_of_beq_eq_true h]),(fun h => by cases h; exact Nat.beq_refl _)⟩
 ·rename_i hd
  rw [hd]
  exact ⟨(fun h => by cases h),(fun h => by cases h)⟩
def dstIs (l:List Oper) (i:Nat) (t:Tmp):Bool:=match l[i]? with
 | some o => dstTo o t
 | none => false
theorem dstIs_spec {l:List Oper} {i:Nat} {t:Tmp} (h:dstIs l i t = true):dsts l i = some t:=by
 unfold dstIs at h
 split at h
 ·rename_i o ho
  simp [dsts,ho,dstTo_iff.1 h]
 ·cases h
def insKey (o:Oper):Option Value:=match o.op with
 | .insert _ _ (.const k) _ => some k
 | _ => none
def noSame (d:TypeDesc) (a b:Value):Bool:=match Instr.sameNow d a b with
 | some false => true
 | _ => false
theorem noSame_spec {d:TypeDesc} {a b:Value} (h:noSame d a b = true):Instr.sameNow d a b = some false:=by
 unfold noSame at h
 split at h
 ·assumption
 ·cases h
def keyPair (d:TypeDesc) (o o':Oper):Bool:=match insKey o,insKey o' with
 | some k,some k' => noSame d k k' && noSame d k' k
 | _,_ => true
def keyPairs (d:TypeDesc):List Oper → Bool
 | [] => true
 | o :: r => r.all (keyPair d o) && keyPairs d r
theorem keyPairs_spec {d:TypeDesc}:∀ {l:List Oper},keyPairs d l = true → ∀ (i j:Nat) (o o':Oper) (k k':Value),i ≠ j → l[i]? = some o → l[j]? = some o' → insKey o = some k → insKey o' = some k' → Instr.sameNow d k k' = some false
 | [],_,i,j,o,o',k,k',_,h,_,_,_ => by cases h
 | x :: r,h,i,j,o,o',k,k',hne,hi,hj,hk,hk' => by
  simp only [keyPairs,Bool.and_eq_true] at h
  have key:∀ (i:Nat) (o':Oper) (k k':Value),r[i]? = some o' → insKey x = some k → insKey o' = some k' → Instr.sameNow d k k' = some false ∧ Instr.sameNow d k' k = some false:=by
   intro i o' k k' hi hk hk'
   have:=List.all_eq_true.1 h.1 o' (List.mem_of_getElem? hi)
   unfold keyPair at this
   rw [hk,hk'] at this
   simp only [Bool.and_eq_true] at this
   exact ⟨noSame_spec this.1,noSame_spec this.2⟩
  cases i with
  | zero =>
   cases j with
   | zero => exact absurd rfl hne
   | succ j =>
    simp only [List.getElem?_cons_zero,Option.some.injEq] at hi
    subst hi
    exact (key j o' k k' (by simpa using hj) hk hk').1
  | succ i =>
   cases j with
   | zero =>
    simp only [List.getElem?_cons_zero,Option.some.injEq] at hj
    subst hj
    exact (key i o k' k (by simpa using hi) hk' hk).2
   | succ j => exact keyPairs_spec h.2 i j o o' k k' (by omega) (by simpa using hi) (by simpa using hj) hk hk'
def dstPairs:List Oper → Bool
 | [] => true
 | o :: r => (match o.dst with
  | some d => r.all fun o' => !dstTo o' d
  | none => true) && dstPairs r
def opdOk (l:List Oper) (o:Oper):Operand → Bool
 | .tmp t => (o.after.toList.any fun e => Region.binds .any e && dstIs l e.on t) || l.all fun o' => !dstTo o' t
 | _ => true
def edgesAll (o:Oper):Nat → Bool
 | 0 => true
 | n + 1 => edge o n && edgesAll o n
theorem edgesAll_spec {o:Oper}:∀ {n:Nat},edgesAll o n = true → ∀ i,i < n → edge o i = true
 | n + 1,h,i,hi => by
  simp only [edgesAll,Bool.and_eq_true] at h
  rcases Nat.lt_or_ge i n with h1 | h1
  ·exact edgesAll_spec h.2 i h1
  ·obtain rfl:i = n:=by omega
   exact h.1
def mlOp (P:Program) (n:Nat) (T kt:TypeId) (l:List Oper) (N1:Nat) (j:Nat) (o:Oper):Bool :=
 o.guard.isNone && (o.after.toList.all fun e => !Region.binds .any e || Nat.blt e.on j) && dok n o.dst && (o.op.operands.toList.all (opdOk l o)) && (match o.op with
 | .makeMap t none => Nat.beq j 0 && Nat.beq t T && o.dst.isSome
 | .insert t _ (.const k) _ => Nat.beq t T && o.dst.isNone && edge o 0 && gchk P false kt k && (match k with
  | .int .. => true
  | _ => false)
 | .range t _ => Nat.beq j N1 && Nat.beq t T && o.dst.isSome && edge o (N1 - 1)
 | .makeMap .. | .insert .. => false
 | _ => o.dst.isSome)
def mlOps (P:Program) (n:Nat) (T kt:TypeId) (l:List Oper) (N1:Nat):Nat → List Oper → Bool
 | _,[] => true
 | j,o :: r => mlOp P n T kt l N1 j o && mlOps P n T kt l N1 (j + 1) r
theorem mlOps_spec {n:Nat} {T kt:TypeId} {l:List Oper} {N1:Nat}:∀ {m:List Oper} {j:Nat},mlOps P n T kt l N1 j m = true → ∀ (i:Nat) (o:Oper),m[i]? = some o → mlOp P n T kt l N1 (j + i) o = true
 | [],j,_,i,o,h => by cases h
 | x :: r,j,h,i,o,hi => by
  simp only [mlOps,Bool.and_eq_true] at h
  cases i with
  | zero => simp only [List.getElem?_cons_zero,Option.some.injEq] at hi; subst hi; exact h.1
  | succ i =>
   have:=mlOps_spec h.2 i o (by simpa using hi)
   rwa [show j + 1 + i = j + (i + 1) by omega] at this
def isMkMap (o:Oper):Bool:=match o.op with
 | .makeMap _ none => true
 | _ => false
def isRng (o:Oper):Bool:=match o.op with
 | .range .. => true
 | _ => false
def mlStat (P:Program) (n:Nat) (T kt et:TypeId) (l:List Oper) (N1:Nat):Bool :=
 (match tmap P T with
 | some (k,e) => Nat.beq k kt && Nat.beq e et
 | none => false) && (match P.underlying kt with
 | some d => keyPairs d l
 | none => false) && dstPairs l && mlOps P n T kt l N1 0 l && Nat.beq l.length (N1 + 1) && Nat.blt 0 N1 && (match l[0]?,l[N1]? with
 | some o,some o' => isMkMap o && isRng o'
 | _,_ => false) && (match l[N1 - 1]? with
 | some o => edgesAll o (N1 - 1)
 | none => false)
def mlV (P:Program) (E:XEnv) (run:XRun) (sA:St) (o:Oper):Bool:=match o.dst with
 | some d => (match xval P E run o sA with
  | some g => gEqX 16 g (fget sA.fr d)
  | none => false)
 | none => false
def mlVal (P:Program) (E:XEnv) (run:XRun) (sA:St) (mi:Nat) (o:Oper):Bool:=match o.op with
 | .makeMap .. => (match o.dst with
  | some d => gEqX 16 (fget sA.fr d) (.mref mi)
  | none => false)
 | .insert _ x _ _ => gEqX 16 (gev sA x) (.mref mi)
 | .range _ x => gEqX 16 (gev sA x) (.mref mi) && (match o.dst with
  | some d => gEqX 16 (fget sA.fr d) (.ref (mi + 1) 0)
  | none => false)
 | _ => xpure E o.op && mlV P E run sA o && (xreads sA o).all fun i => !(Nat.beq i mi) && !(Nat.beq i (mi + 1))
def mlDyn (P:Program) (E:XEnv) (run:XRun) (st:St) (vals:Fr) (l:List Oper):Bool:=(vals.all fun q => l.any fun o => dstTo o q.1) && l.all (mlVal P E run { st with fr:=vals ++ st.fr } st.c)
def entOf (sA:St) (o:Oper):Option (Value × G):=match o.op with
 | .insert _ _ (.const k) y => some (k,gev sA y)
 | _ => none
structure MapOf (ents:List (Value × G)) (es:List (Value × G × Nat)) (clock:Nat):Prop where
 sub:∀ e ∈ es,(e.1,e.2.1) ∈ ents
 sup:∀ q ∈ ents,∃ n,(q.1,q.2,n) ∈ es
 lt:∀ e ∈ es,e.2.2 < clock
 nd:(es.map (·.2.2)).Nodup
section lit
variable {E:XEnv} {run:XRun} {l:List Oper} {st:St} {T kt et:TypeId} {N1:Nat} {vals:Fr}
abbrev sAll (st:St) (vals:Fr):St:={ st with fr:=vals ++ st.fr }
structure MInv (st:St) (T:TypeId) (l:List Oper) (N1:Nat) (vals:Fr) (D:Dn) (s:St):Prop where
 n:s.n = st.n
 gl:s.gl = st.gl
 pr:s.pr = st.pr
 f1:∀ j t,D j = true → dsts l j = some t → fget s.fr t = fget (sAll st vals).fr t
 f2:∀ t,(∀ j,D j = true → dsts l j ≠ some t) → fget s.fr t = fget st.fr t
 σ:∀ i,i ≠ st.c → i ≠ st.c + 1 → sget s.σ i = sget st.σ i
 c:s.c = if D N1 then st.c + 2 else if D 0 then st.c + 1 else st.c
 ins:∀ j o q,D j = true → l[j]? = some o → entOf (sAll st vals) o = some q → D 0 = true
 last:D N1 = true → ∀ j,j < N1 → D j = true
 pen:D (N1 - 1) = true → ∀ j,j < N1 - 1 → D j = true
 m:D 0 = true → ∃ es clock,sget s.σ st.c = some ⟨T,[],some (.map es clock)⟩ ∧ (∀ e ∈ es,∃ j o,D j = true ∧ l[j]? = some o ∧ entOf (sAll st vals) o = some (e.1,e.2.1)) ∧ (∀ j o q,D j = true → l[j]? = some o → entOf (sAll st vals) o = some q → ∃ n,(q.1,q.2,n) ∈ es) ∧ (∀ e ∈ es,e.2.2 < clock) ∧ (es.map (·.2.2)).Nodup ∧
  (D N1 = true → sget s.σ (st.c + 1) = some ⟨T,[],some (.iter (some st.c) clock [] clock)⟩)
theorem sput_put (s:St) (d:Option Tmp) (g:G):(s.put d g).σ = s.σ ∧ (s.put d g).c = s.c ∧ (s.put d g).n = s.n ∧ (s.put d g).gl = s.gl ∧ (s.put d g).pr = s.pr:=by cases d <;> exact ⟨rfl,rfl,rfl,rfl,rfl⟩
theorem fget_put (s:St) (d:Option Tmp) (g:G) (t:Tmp):fget (s.put d g).fr t = if d = some t then g else fget s.fr t:=by
 cases d with
 | none => simp [St.put]
 | some d =>
  show fget ((d,g) :: s.fr) t = _
  rw [fget_cons]
  by_cases e:d = t <;> simp [e]
theorem know_no {d:TypeDesc} {k:Value}:∀ {ks:List Value} {n:Nat},(∀ u ∈ ks,Instr.sameNow d k u = some false) → know d k ks n = some none
 | [],n,h => rfl
 | u :: r,n,h => by
  unfold know
  rw [h u (by simp)]
  exact know_no fun u hu => h u (by simp [hu])
theorem add_t {D:Dn} {j i:Nat} (h:D i = true):D.add j i = true:=by
 unfold Dn.add
 split
 ·rfl
 ·exact h
theorem add_j {D:Dn} {j:Nat}:D.add j j = true:=by simp [Dn.add]
theorem add_i {D:Dn} {j i:Nat} (h:D.add j i = true):i = j ∨ D i = true:=by
 unfold Dn.add at h
 split at h
 ·rename_i e; exact .inl e.symm
 ·exact .inr h
theorem add_ne {D:Dn} {j i:Nat} (h:i ≠ j):D.add j i = D i:=by
 unfold Dn.add
 rw [if_neg (fun e => h e.symm)]
theorem MInv.frames {D:Dn} {s:St} (h:MInv st T l N1 vals D s) (hp:dstPairs l = true) {j:Nat} {o:Oper} (ho:l[j]? = some o) {g:G} (hg:∀ t,o.dst = some t → g = fget (sAll st vals).fr t) (s':St) (hs:s'.fr = s.fr) :
  (∀ i t,D.add j i = true → dsts l i = some t → fget (s'.put o.dst g).fr t = fget (sAll st vals).fr t) ∧ ∀ t,(∀ i,D.add j i = true → dsts l i ≠ some t) → fget (s'.put o.dst g).fr t = fget st.fr t:=by
 refine ⟨fun i t hi ht => ?_,fun t ht => ?_⟩
 ·rw [fget_put,hs]
  split
  ·rename_i e; exact hg t e
  ·rename_i e
   rcases add_i hi with rfl | hi
   ·exfalso
    apply e
    simpa [dsts,ho] using ht
   ·exact h.f1 i t hi ht
 ·rw [fget_put,hs,if_neg (fun e => ht j add_j (by simp [dsts,ho,e]))]
  exact h.f2 t fun i hi => ht i (add_t hi)
theorem opd_gev {D:Dn} {s:St} (h:MInv st T l N1 vals D s) (hv:∀ q ∈ vals,∃ o ∈ l,dstTo o q.1 = true) {o:Oper} (hr:∀ e ∈ o.after,Region.binds .any e = true → D e.on = true) {x:Operand} (hx:opdOk l o x = true):gev s x = gev (sAll st vals) x:=by
 cases x with
 | const v => rfl
 | global g => simp only [gev,h.gl]
 | func f => rfl
 | tmp t =>
  show fget s.fr t = fget (vals ++ st.fr) t
  simp only [opdOk,Bool.or_eq_true,List.any_eq_true,Bool.and_eq_true,List.all_eq_true,Bool.not_eq_true'] at hx
  rcases hx with ⟨e,he,hb,hd⟩ | hx
  ·exact h.f1 e.on t (hr e (by simpa using he) hb) (dstIs_spec hd)
  ·have hn:∀ j,dsts l j ≠ some t:=fun j hj => by
    have hj:(l[j]?).bind (·.dst) = some t:=hj
    rw [Option.bind_eq_some_iff] at hj
    obtain ⟨o',ho',hd'⟩:=hj
    have:=hx o' (List.mem_of_getElem? ho')
    rw [dstTo_iff.2 hd'] at this
    cases this
   rw [h.f2 t fun j _ => hn j]
   have:∀ (V:Fr),(∀ q ∈ V,∃ o ∈ l,dstTo o q.1 = true) → fget (V ++ st.fr) t = fget st.fr t:=by
    intro V
    induction V with
    | nil => intro _; rfl
    | cons q r ih =>
     intro hV
     rw [List.cons_append,fget_cons,if_neg (fun e => by
      obtain ⟨o',ho',hd'⟩:=hV q (by simp)
      have:=hx o' ho'
      rw [e] at hd'
      rw [hd'] at this; cases this)]
     exact ih fun q hq => hV q (by simp [hq])
   exact (this vals hv).symm
theorem vals_out {t:Tmp} (hv:∀ q ∈ vals,∃ o ∈ l,dstTo o q.1 = true) (hn:∀ j,dsts l j ≠ some t):fget (vals ++ st.fr) t = fget st.fr t:=by
 have:∀ (V:Fr),(∀ q ∈ V,∃ o ∈ l,dstTo o q.1 = true) → fget (V ++ st.fr) t = fget st.fr t:=by
  intro V
  induction V with
  | nil => intro _; rfl
  | cons q r ih =>
   intro hV
   rw [List.cons_append,fget_cons,if_neg (fun e => by
    obtain ⟨o',ho',hd'⟩:=hV q (by simp)
    rw [e] at hd'
    obtain ⟨j,hj⟩:=List.mem_iff_getElem?.1 ho'
    exact hn j (by simp [dsts,hj,dstTo_iff.1 hd']))]
   exact ih fun q hq => hV q (by simp [hq])
 exact this vals hv
theorem gmap_of {σ:Sto} {i:Nat} {T:TypeId} {es:List (Value × G × Nat)} {clock:Nat} (h:sget σ i = some ⟨T,[],some (.map es clock)⟩):gmap σ (.mref i) = some (i,T,es,clock):=by
 unfold gmap
 simp only [h]
theorem entOf_key {sA:St} {o:Oper} {q:Value × G} (h:entOf sA o = some q):insKey o = some q.1:=by
 unfold entOf at h
 unfold insKey
 split at h
 ·rename_i t x k y ho
  cases h
  rfl
 ·cases h
theorem tr_maplit (hm:P.follows .mixedOrders = true) (hr:RunOk P run) (ht:PureOk P E.tp) {id:Nat} (hs:mlStat P st.n T kt et l N1 = true) (hd:mlDyn P E run st vals l = true) {Q:Exit → St → Prop}
  (hQ:∀ es clock,MapOf (l.filterMap (entOf (sAll st vals))) es clock → Q .normal { st with fr:=vals ++ st.fr,σ:=(st.c + 1,some ⟨T,[],some (.iter (some st.c) clock [] clock)⟩) :: (st.c,some ⟨T,[],some (.map es clock)⟩) :: st.σ,c:=st.c + 2 }):Tr P (.region id l.toArray true) st Q:=by
 unfold mlStat at hs
 simp only [Bool.and_eq_true] at hs
 obtain ⟨⟨⟨⟨⟨⟨⟨h1,h2⟩,h3⟩,h4⟩,h5⟩,h6⟩,h7⟩,h8⟩:=hs
 have hN0:=Nat.eq_of_beq_eq_true h5
 have hNp:0 < N1:=Nat.le_of_ble_eq_true h6
 have hT:tmap P T = some (kt,et):=by
  split at h1
  ·rename_i k e hk
   simp only [Bool.and_eq_true] at h1
   rw [hk,Nat.eq_of_beq_eq_true h1.1,Nat.eq_of_beq_eq_true h1.2]
  ·cases h1
 obtain ⟨d,hkd,hkp⟩:∃ d,P.underlying kt = some d ∧ keyPairs d l = true:=by
  split at h2
  ·rename_i d hd; exact ⟨d,hd,h2⟩
  ·cases h2
 obtain ⟨o0,oN,ho0,hoN,hk0,hkN⟩:∃ o0 oN,l[0]? = some o0 ∧ l[N1]? = some oN ∧ isMkMap o0 = true ∧ isRng oN = true:=by
  split at h7
  ·rename_i a b ha hb
   simp only [Bool.and_eq_true] at h7
   exact ⟨a,b,ha,hb,h7.1,h7.2⟩
  ·cases h7
 have hop:=fun j o (ho:l[j]? = some o) => by
  have:=mlOps_spec h4 j o ho
  rw [Nat.zero_add] at this
  unfold mlOp at this
  simp only [Bool.and_eq_true] at this
  exact this
 unfold mlDyn at hd
 simp only [Bool.and_eq_true,List.all_eq_true,List.any_eq_true] at hd
 obtain ⟨hv,hdv⟩:=hd
 have hval:∀ j o,l[j]? = some o → mlVal P E run (sAll st vals) st.c o = true:=fun j o ho => hdv o (List.mem_of_getElem? ho)
 refine Tr.eqv (tr_region_inv hm (MInv st T l N1 vals) (fun j o ho => ?_) (fun j o ho e he hb => ?_) ?_ (fun D s j o I ho hD hre => ?_) (fun D s I hall => ?_))
 ·have:=(hop j o ho).1.1.1.1
  simpa using this
 ·have:=List.all_eq_true.1 (hop j o ho).1.1.1.2 e (by simpa using he)
  rw [hb] at this
  simp only [Bool.not_true,Bool.false_or] at this
  exact Nat.le_of_ble_eq_true this
 ·exact { n:=rfl,gl:=rfl,pr:=rfl,f1:=(fun j t h => by cases h),f2:=fun _ _ => rfl,σ:=fun _ _ _ => rfl,c:=rfl,ins:=(fun j o q h => by cases h),last:=(fun h => by cases h),pen:=(fun h => by cases h),m:=(fun h => by cases h) }
 ·obtain ⟨⟨⟨⟨-,-⟩,hdk⟩,hops⟩,hkind⟩:=hop j o ho
  have hdk':∀ d,o.dst = some d → d < s.n:=by rw [I.n]; exact dok_spec hdk
  have hx:∀ x ∈ o.op.operands,gev s x = gev (sAll st vals) x:=fun x hx => opd_gev I hv hre (List.all_eq_true.1 hops x (by simpa using hx))
  have hjl:j < N1 + 1:=by rw [← hN0]; exact (List.getElem?_eq_some_iff.1 ho).1
  have hva:=hval j o ho
  have h0:isMkMap o = false → j ≠ 0:=fun h e => by
   subst e
   rw [ho0] at ho
   cases ho
   rw [hk0] at h; cases h
  have hN:isRng o = false → j ≠ N1:=fun h e => by
   subst e
   rw [hoN] at ho
   cases ho
   rw [hkN] at h; cases h
  have hDN:D N1 = false:=by
   cases hx:D N1 with
   | false => rfl
   | true =>
    rcases Nat.lt_or_ge j N1 with h | h
    ·rw [I.last hx j h] at hD; cases hD
    ·obtain rfl:j = N1:=by omega
     rw [hx] at hD; cases hD
  have hpen:D.add j (N1 - 1) = true → ∀ i,i < N1 - 1 → D.add j i = true:=fun h i hi => by
   rcases add_i h with e | h
   ·rw [e,ho] at h8
    obtain ⟨e',he,hb,hon⟩:=edge_spec (edgesAll_spec h8 i (by omega))
    refine add_t ?_
    rw [← hon]; exact hre e' he hb
   ·exact add_t (I.pen h i hi)
  obtain ⟨dst,op,ty,pos,af,gd⟩:=o
  have entj:∀ {i:Nat} {o':Oper} {q:Value × G},entOf (sAll st vals) ⟨dst,op,ty,pos,af,gd⟩ = none → l[i]? = some o' → entOf (sAll st vals) o' = some q → D.add j i = true → D i = true:=fun hno ho' hq hi => by
   rcases add_i hi with rfl | hi
   ·rw [ho] at ho'
    cases ho'
    rw [hno] at hq; cases hq
   ·exact hi
  -- an operation that writes nothing
  have value:isMkMap ⟨dst,op,ty,pos,af,gd⟩ = false → isRng ⟨dst,op,ty,pos,af,gd⟩ = false → entOf (sAll st vals) ⟨dst,op,ty,pos,af,gd⟩ = none → (xpure E op && mlV P E run (sAll st vals) ⟨dst,op,ty,pos,af,gd⟩ && (xreads (sAll st vals) ⟨dst,op,ty,pos,af,gd⟩).all fun i => !(Nat.beq i st.c) && !(Nat.beq i (st.c + 1))) = true → GSn P ⟨dst,op,ty,pos,af,gd⟩ s (fun s' => MInv st T l N1 vals (D.add j) s'):=by
   intro hk hg hno hvv
   simp only [Bool.and_eq_true,List.all_eq_true,Bool.not_eq_true'] at hvv
   obtain ⟨⟨_,hxv⟩,hrd⟩:=hvv
   obtain ⟨d,g,rfl,hg',hxv⟩:∃ d g,dst = some d ∧ xval P E run ⟨dst,op,ty,pos,af,gd⟩ (sAll st vals) = some g ∧ gEqX 16 g (fget (sAll st vals).fr d) = true:=by
    unfold mlV at hxv
    cases dst with
    | none => cases hxv
    | some d =>
     dsimp only at hxv
     split at hxv
     ·rename_i g hg1
      exact ⟨d,g,rfl,hg1,hxv⟩
     ·cases hxv
   focus
    have hg2:=gEqX_spec 16 _ _ hxv
    have hxs:xval P E run ⟨some d,op,ty,pos,af,gd⟩ s = some g:=by
     rw [← hg']
     refine xval_congrL I.gl (fun i hi => ?_) hx
     obtain ⟨e1,e2⟩:=hrd i hi
     refine I.σ i (fun e => ?_) (fun e => ?_)
     ·rw [e,Nat.beq_refl] at e1; cases e1
     ·rw [e,Nat.beq_refl] at e2; cases e2
    refine (xval_gs hr ht hdk' hxs).gsn.eqv fun s' hs' => ⟨s',?_,Eqv.refl _⟩
    subst hs'
    obtain ⟨f1,f2⟩:=I.frames h3 ho (g:=g) (fun t e => by cases e; exact hg2) s rfl
    have hj0:=h0 hk
    have hjN:=hN hg
    obtain ⟨p1,p2,p3,p4,p5⟩:=sput_put s (some d) g
    refine { n:=p3.trans I.n,gl:=p4.trans I.gl,pr:=p5.trans I.pr,f1:=f1,f2:=f2,σ:=fun i h1 h2 => by rw [p1]; exact I.σ i h1 h2,c:=by rw [p2,add_ne (Ne.symm hjN),add_ne (Ne.symm hj0)]; exact I.c,ins:=fun i o' q hi ho' hq => add_t (I.ins i o' q (entj hno ho' hq hi) ho' hq),last:=(fun h => by
      rw [add_ne (Ne.symm hjN),hDN] at h; cases h),pen:=hpen,m:=fun h => ?_ }
    rw [add_ne (Ne.symm hj0)] at h
    obtain ⟨es,clock,m1,m2,m3,m4,m5,m6⟩:=I.m h
    refine ⟨es,clock,by rw [p1]; exact m1,fun e he => ?_,fun i o' q hi ho' hq => m3 i o' q (entj hno ho' hq hi) ho' hq,m4,m5,(fun h => by
     rw [add_ne (Ne.symm hjN),hDN] at h; cases h)⟩
    obtain ⟨i,o',hi,ho',hq⟩:=m2 e he
    exact ⟨i,o',add_t hi,ho',hq⟩
  dsimp only at hkind
  split at hkind
  ·-- the map is made
   rename_i t
   simp only [Bool.and_eq_true] at hkind
   obtain rfl:=Nat.eq_of_beq_eq_true hkind.1.1
   obtain rfl:=Nat.eq_of_beq_eq_true hkind.1.2
   obtain ⟨d,rfl⟩:=Option.isSome_iff_exists.1 hkind.2
   have hsc:s.c = st.c:=by rw [I.c,hDN,hD]; rfl
   refine (gs_makeMap (t:=t) (r:=none) rfl hdk' rfl).gsn.eqv fun s' hs' => ⟨s',?_,Eqv.refl _⟩
   subst hs'
   rw [hsc]
   obtain ⟨f1,f2⟩:=I.frames h3 ho (g:=.mref st.c) (fun t e => by
    cases e
    unfold mlVal at hva
    exact (gEqX_spec 16 _ _ hva).symm) { s with σ:=(st.c,some ⟨t,[],some (.map [] 0)⟩) :: s.σ,c:=st.c + 1 } rfl
   obtain ⟨p1,p2,p3,p4,p5⟩:=sput_put { s with σ:=(st.c,some ⟨t,[],some (.map [] 0)⟩) :: s.σ,c:=st.c + 1 } (some d) (.mref st.c)
   have hadd:D.add 0 N1 = false:=by rw [add_ne (by omega)]; exact hDN
   refine { n:=p3.trans I.n,gl:=p4.trans I.gl,pr:=p5.trans I.pr,f1:=f1,f2:=f2,σ:=fun i h1 h2 => ?_,c:=by rw [p2,hadd,add_j]; rfl,ins:=fun i o' q hi ho' hq => add_j,last:=(fun h => by rw [hadd] at h; cases h),pen:=hpen,m:=fun _ => ?_ }
   ·rw [p1,sget_cons,if_neg (fun e => h1 e.symm)]
    exact I.σ i h1 h2
   ·refine ⟨[],0,by rw [p1,sget_cons,if_pos rfl],(fun e he => by cases he),fun i o' q hi ho' hq => ?_,(fun e he => by cases he),by simp,(fun h => by rw [hadd] at h; cases h)⟩
    have:=I.ins i o' q (entj rfl ho' hq hi) ho' hq
    rw [hD] at this; cases this
  ·-- an entry
   rename_i t x k y
   simp only [Bool.and_eq_true] at hkind
   obtain ⟨⟨⟨⟨k1,k2⟩,k3⟩,k4⟩,k5⟩:=hkind
   obtain rfl:=Nat.eq_of_beq_eq_true k1
   obtain rfl:dst = none:=by simpa using k2
   have hj0:=h0 rfl
   have hjN:=hN rfl
   have hD0:D 0 = true:=by
    obtain ⟨e,he,hb,hon⟩:=edge_spec k3
    rw [← hon]; exact hre e he hb
   obtain ⟨es,clock,m1,m2,m3,m4,m5,m6⟩:=I.m hD0
   have hxm:gev s x = .mref st.c:=(hx x (by simp [Op.operands])).trans (gEqX_spec 16 _ _ hva)
   have hy:gev s y = gev (sAll st vals) y:=hx y (by simp [Op.operands])
   have hgk:gval (gev s (.const k)) = some k:=by
    split at k5
    ·rfl
    ·cases k5
   have hent:entOf (sAll st vals) ⟨none,.insert t x (.const k) y,ty,pos,af,gd⟩ = some (k,gev (sAll st vals) y):=rfl
   have hkey:gkey P kt k (es.map (·.1)) = some none:=by
    unfold gkey
    rw [hkd]
    simp only
    rw [know_no fun u hu => ?_]
    obtain ⟨e,he,rfl⟩:=List.mem_map.1 hu
    obtain ⟨i,o',hi,ho',hq⟩:=m2 e he
    exact keyPairs_spec hkp j i _ o' k e.1 (fun e => by subst e; rw [hD] at hi; cases hi) ho ho' rfl (entOf_key hq)
   have hput:gmapPut P s.σ t (gev s x) (gev s (.const k)) (gev s y) = some (st.c,⟨t,[],some (.map (es ++ [(k,gev (sAll st vals) y,clock)]) (clock + 1))⟩):=by
    unfold gmapPut
    rw [hT,hgk,hxm,gmap_of m1]
    simp only [k4,cond_true,hkey,hy]
   refine (gs_mapUpdate (.inr rfl) hdk' hput).gsn.eqv fun s' hs' => ⟨s',?_,Eqv.refl _⟩
   subst hs'
   obtain ⟨f1,f2⟩:=I.frames h3 ho (g:=.lit undef) (fun t e => by cases e) { s with σ:=(st.c,some ⟨t,[],some (.map (es ++ [(k,gev (sAll st vals) y,clock)]) (clock + 1))⟩) :: s.σ } rfl
   have hadd:D.add j N1 = false:=by rw [add_ne (Ne.symm hjN)]; exact hDN
   refine { n:=I.n,gl:=I.gl,pr:=I.pr,f1:=f1,f2:=f2,σ:=fun i h1 h2 => ?_,c:=(by
     show s.c = _
     rw [hadd,add_ne (Ne.symm hj0)]
     have:=I.c
     rw [hDN] at this
     exact this),ins:=fun i o' q hi ho' hq => add_t hD0,last:=(fun h => by rw [hadd] at h; cases h),pen:=hpen,m:=fun _ => ?_ }
   ·show sget ((st.c,_) :: s.σ) i = _
    rw [sget_cons,if_neg (fun e => h1 e.symm)]
    exact I.σ i h1 h2
   ·refine ⟨es ++ [(k,gev (sAll st vals) y,clock)],clock + 1,?_,fun e he => ?_,fun i o' q hi ho' hq => ?_,fun e he => ?_,?_,(fun h => by rw [hadd] at h; cases h)⟩
    ·show sget ((st.c,_) :: s.σ) st.c = _
     rw [sget_cons,if_pos rfl]
    ·rcases List.mem_append.1 he with he | he
     ·obtain ⟨i,o',hi,ho',hq⟩:=m2 e he
      exact ⟨i,o',add_t hi,ho',hq⟩
     ·obtain rfl:=List.mem_singleton.1 he
      exact ⟨j,_,add_j,ho,hent⟩
    ·rcases add_i hi with rfl | hi
     ·rw [ho] at ho'
      cases ho'
      rw [hent] at hq
      cases hq
      exact ⟨clock,by simp⟩
     ·obtain ⟨n,hn⟩:=m3 i o' q hi ho' hq
      exact ⟨n,List.mem_append_left _ hn⟩
    ·rcases List.mem_append.1 he with he | he
     ·have:=m4 e he; omega
     ·obtain rfl:=List.mem_singleton.1 he
      exact Nat.lt_succ_self _
    ·rw [List.map_append,List.nodup_append]
     refine ⟨m5,by simp,fun a ha b hb e => ?_⟩
     simp only [List.map_cons,List.map_nil,List.mem_singleton] at hb
     obtain ⟨e',he',rfl⟩:=List.mem_map.1 ha
     have:=m4 e' he'
     omega
  ·-- the walk begins
   rename_i t x
   simp only [Bool.and_eq_true] at hkind
   obtain ⟨⟨⟨k1,k2⟩,k3⟩,k4⟩:=hkind
   obtain rfl:=Nat.eq_of_beq_eq_true k1
   obtain rfl:=Nat.eq_of_beq_eq_true k2
   obtain ⟨d,rfl⟩:=Option.isSome_iff_exists.1 k3
   have hp1:D (j - 1) = true:=by
    obtain ⟨e,he,hb,hon⟩:=edge_spec k4
    rw [← hon]; exact hre e he hb
   have hall:∀ i,i < j → D i = true:=fun i hi => by
    rcases Nat.lt_or_ge i (j - 1) with h | h
    ·exact I.pen hp1 i h
    ·obtain rfl:i = j - 1:=by omega
     exact hp1
   have hD0:=hall 0 hNp
   obtain ⟨es,clock,m1,m2,m3,m4,m5,m6⟩:=I.m hD0
   have hva':gEqX 16 (gev (sAll st vals) x) (.mref st.c) = true ∧ gEqX 16 (fget (sAll st vals).fr d) (.ref (st.c + 1) 0) = true:=by
    unfold mlVal at hva
    simpa only [Bool.and_eq_true] using hva
   have hxm:gev s x = .mref st.c:=(hx x (by simp [Op.operands])).trans (gEqX_spec 16 _ _ hva'.1)
   have hsc:s.c = st.c + 1:=by rw [I.c,hDN,hD0]; rfl
   have hrg:grange P s.σ t (gev s x) = some (.iter (some st.c) clock [] clock):=by
    unfold grange
    rw [hT,hxm]
    simp only [gmap_of m1]
   refine (gs_range rfl hdk' hrg).gsn.eqv fun s' hs' => ⟨s',?_,Eqv.refl _⟩
   subst hs'
   rw [hsc]
   obtain ⟨f1,f2⟩:=I.frames h3 ho (g:=.ref (st.c + 1) 0) (fun t e => by cases e; exact (gEqX_spec 16 _ _ hva'.2).symm) { s with σ:=(st.c + 1,some ⟨t,[],some (.iter (some st.c) clock [] clock)⟩) :: s.σ,c:=st.c + 1 + 1 } rfl
   obtain ⟨p1,p2,p3,p4,p5⟩:=sput_put { s with σ:=(st.c + 1,some ⟨t,[],some (.iter (some st.c) clock [] clock)⟩) :: s.σ,c:=st.c + 1 + 1 } (some d) (.ref (st.c + 1) 0)
   refine { n:=p3.trans I.n,gl:=p4.trans I.gl,pr:=p5.trans I.pr,f1:=f1,f2:=f2,σ:=fun i h1 h2 => ?_,c:=by rw [p2,add_j]; rfl,ins:=fun i o' q hi ho' hq => add_t hD0,last:=fun _ i hi => add_t (hall i hi),pen:=hpen,m:=fun _ => ?_ }
   ·rw [p1,sget_cons,if_neg (fun e => h2 e.symm)]
    exact I.σ i h1 h2
   ·refine ⟨es,clock,?_,fun e he => ?_,fun i o' q hi ho' hq => m3 i o' q (entj rfl ho' hq hi) ho' hq,m4,m5,fun _ => ?_⟩
    ·rw [p1,sget_cons,if_neg (by omega)]; exact m1
    ·obtain ⟨i,o',hi,ho',hq⟩:=m2 e he
     exact ⟨i,o',add_t hi,ho',hq⟩
    ·rw [p1,sget_cons,if_pos rfl]
  ·cases hkind
  ·cases hkind
  ·rename_i c1 c2 c3 c4 c5
   refine value ?_ ?_ ?_ ?_
   ·unfold isMkMap
    dsimp only
    split
    ·rename_i a; exact absurd rfl (c1 a)
    ·rfl
   ·unfold isRng
    dsimp only
    split
    ·rename_i a b; exact absurd rfl (c3 a b)
    ·rfl
   ·unfold entOf
    dsimp only
    split
    ·rename_i a b c d; exact absurd rfl (c2 a b c d)
    ·rfl
   ·unfold mlVal at hva
    dsimp only at hva
    split at hva
    ·rename_i a b; exact absurd rfl (c4 a b)
    ·rename_i a b c d; exact absurd rfl (c5 a b c d)
    ·rename_i a b; exact absurd rfl (c3 a b)
    ·exact hva
 ·have hD0:D 0 = true:=hall 0 (by omega)
  have hDN:D N1 = true:=hall N1 (by omega)
  obtain ⟨es,clock,m1,m2,m3,m4,m5,m6⟩:=I.m hD0
  refine ⟨_,?_,hQ es clock { sub:=fun e he => ?_,sup:=fun q hq => ?_,lt:=m4,nd:=m5 }⟩
  ·have hpr:=I.pr
   simp only [St.pr,Prod.mk.injEq] at hpr
   refine ⟨I.n.symm,I.gl.symm,fun i => ?_,fun i => ?_,?_,hpr.1.symm,hpr.2.symm⟩
   ·by_cases hx:∃ j,dsts l j = some i
    ·obtain ⟨j,hj⟩:=hx
     have hjl:j < l.length:=by
      rcases Nat.lt_or_ge j l.length with h | h
      ·exact h
      ·simp [dsts,List.getElem?_eq_none h] at hj
     exact (I.f1 j i (hall j hjl) hj).symm
    ·rw [I.f2 i fun j _ hj => hx ⟨j,hj⟩]
     exact vals_out hv fun j hj => hx ⟨j,hj⟩
   ·show sget ((st.c + 1,_) :: (st.c,_) :: st.σ) i = sget s.σ i
    rw [sget_cons,sget_cons]
    split
    ·rename_i e; rw [← e]; exact (m6 hDN).symm
    ·rename_i e1
     split
     ·rename_i e; rw [← e]; exact m1.symm
     ·rename_i e2
      exact (I.σ i (fun e => e2 e.symm) (fun e => e1 e.symm)).symm
   ·rw [I.c,hDN]; rfl
  ·obtain ⟨j,o',_,ho',hq⟩:=m2 e he
   exact List.mem_filterMap.2 ⟨o',List.mem_of_getElem? ho',hq⟩
  ·obtain ⟨o',ho',hq'⟩:=List.mem_filterMap.1 hq
   obtain ⟨j,hj⟩:=List.mem_iff_getElem?.1 ho'
   exact m3 j o' q (hall j (List.getElem?_eq_some_iff.1 hj).1) hj hq'
end lit
end
end
section
open Go.RowKit
abbrev Ents:=List (Value × G × Nat)
def mKey (k:Value):Nat:=match k with
 | .int _ (.ofNat n) => n
 | _ => 0
def mHas (g:G):Bool:=match g with
 | .lit (.bool true) => true
 | _ => false
def mVal (k:Value) (g:G):Nat:=bif mHas g then mKey k else 0
def orAcc (seen:List Nat):Ents → Nat
 | [] => 0
 | e :: r => (bif seen.contains e.2.2 then mVal e.1 e.2.1 else 0) ||| orAcc seen r
def orAll:Ents → Nat
 | [] => 0
 | e :: r => mVal e.1 e.2.1 ||| orAll r
theorem contains_add {seen:List Nat} {n m:Nat}:(seen ++ [n]).contains m = (seen.contains m || (m == n)):=by
 rw [Bool.eq_iff_iff]
 simp
theorem orAcc_out {seen:List Nat} {n:Nat}:∀ {es:Ents},n ∉ es.map (·.2.2) → orAcc (seen ++ [n]) es = orAcc seen es
 | [],_ => rfl
 | e :: r,h => by
  simp only [List.map_cons,List.mem_cons,not_or] at h
  unfold orAcc
  rw [orAcc_out h.2,contains_add]
  have:(e.2.2 == n) = false:=by
   rw [beq_eq_false_iff_ne]
   exact fun x => h.1 x.symm
  rw [this,Bool.or_false]
theorem orAcc_add {seen:List Nat} {k:Value} {g:G} {n:Nat} (hn:n ∉ seen):∀ {es:Ents},(k,g,n) ∈ es → (es.map (·.2.2)).Nodup → orAcc (seen ++ [n]) es = orAcc seen es ||| mVal k g
 | e :: r,h,hd => by
  simp only [List.map_cons,List.nodup_cons] at hd
  unfold orAcc
  have hs:seen.contains n = false:=by
   cases hc:seen.contains n with
   | false => rfl
   | true => exact absurd (by simpa using hc) hn
  rcases List.mem_cons.1 h with rfl | h
  ·rw [orAcc_out hd.1,contains_add]
   simp only [hs,Bool.false_or,BEq.rfl,cond_true,cond_false,Nat.zero_or]
   rw [Nat.or_comm]
  ·have hne:e.2.2 ≠ n:=fun x => hd.1 (by rw [x]; exact List.mem_map.2 ⟨_,h,rfl⟩)
   rw [orAcc_add hn h hd.2,contains_add]
   have:(e.2.2 == n) = false:=by rw [beq_eq_false_iff_ne]; exact hne
   rw [this,Bool.or_false,Nat.or_assoc]
theorem orAcc_all {seen:List Nat}:∀ {es:Ents},(∀ e ∈ es,e.2.2 ∈ seen) → orAcc seen es = orAll es
 | [],_ => rfl
 | e :: r,h => by
  unfold orAcc orAll
  rw [orAcc_all fun e he => h e (by simp [he])]
  have:seen.contains e.2.2 = true:=by simpa using h e (by simp)
  rw [this]; rfl
theorem orAcc_nil:∀ {es:Ents},orAcc [] es = 0
 | [] => rfl
 | e :: r => by unfold orAcc; rw [orAcc_nil]; simp
theorem orAcc_lt {seen:List Nat} {b:Nat}:∀ {es:Ents},(∀ e ∈ es,mKey e.1 < 2 ^ b) → orAcc seen es < 2 ^ b
 | [],_ => Nat.two_pow_pos b
 | e :: r,h => by
  unfold orAcc
  refine Nat.or_lt_two_pow ?_ (orAcc_lt fun e he => h e (by simp [he]))
  have:=h e (by simp)
  cases seen.contains e.2.2 with
  | false => exact Nat.two_pow_pos b
  | true =>
   show mVal e.1 e.2.1 < 2 ^ b
   unfold mVal
   cases mHas e.2.1 with
   | false => exact Nat.two_pow_pos b
   | true => exact this
theorem gcands_none {es:Ents} {since:Nat} {seen:List Nat} (hb:∀ e ∈ es,e.2.2 < since) (h:none ∈ gcands es since seen):∀ e ∈ es,e.2.2 ∈ seen:=by
 intro e he
 unfold gcands at h
 simp only [List.mem_append,List.mem_map] at h
 rcases h with h | ⟨x,_,hx⟩
 ·split at h
  ·rename_i hemp
   rw [List.isEmpty_iff,List.filter_eq_nil_iff] at hemp
   by_cases hs:e.2.2 ∈ seen
   ·exact hs
   ·exfalso
    refine hemp e (List.mem_filter.2 ⟨he,by simpa using hs⟩) (by simpa using hb e he)
  ·cases h
 ·cases hx
theorem gcands_some {es:Ents} {since:Nat} {seen:List Nat} {k:Value} {g:G} {n:Nat} (h:some (k,g,n) ∈ gcands es since seen):(k,g,n) ∈ es ∧ n ∉ seen:=by
 unfold gcands at h
 simp only [List.mem_append,List.mem_map] at h
 rcases h with h | ⟨x,hx,hxe⟩
 ·split at h
  ·simp at h
  ·cases h
 ·cases hxe
  have hm:(k,g,n) ∈ es.filter fun e => !seen.contains e.2.2:=by
   rcases hx with hx | hx
   ·exact (List.mem_filter.1 hx).1
   ·exact (List.mem_filter.1 hx).1
  obtain ⟨h1,h2⟩:=List.mem_filter.1 hm
  refine ⟨h1,fun hs => ?_⟩
  simp [hs] at h2
end
section
open Go.RowKit
section
variable {P:Program}
theorem left_less {es:Ents} {seen:List Nat} {k:Value} {g:G} {n:Nat} (h:(k,g,n) ∈ es) (hn:n ∉ seen):(es.filter fun e => !(seen ++ [n]).contains e.2.2).length < (es.filter fun e => !seen.contains e.2.2).length:=by
 induction es with
 | nil => cases h
 | cons e r ih =>
  have mono:∀ (r:Ents),(r.filter fun e => !(seen ++ [n]).contains e.2.2).length ≤ (r.filter fun e => !seen.contains e.2.2).length:=by
   intro r
   induction r with
   | nil => exact Nat.le_refl _
   | cons x s ih =>
    rw [List.filter_cons,List.filter_cons,contains_add]
    cases hs:seen.contains x.2.2 with
    | true => simp only [Bool.true_or,Bool.not_true]; exact ih
    | false =>
     cases hx:(x.2.2 == n) with
     | true => simp only [Bool.or_true,Bool.not_true,Bool.not_false]; exact Nat.le_succ_of_le ih
     | false => simp only [Bool.or_false,Bool.not_false]; exact Nat.succ_le_succ ih
  rw [List.filter_cons,List.filter_cons,contains_add]
  rcases List.mem_cons.1 h with rfl | h
  ·have hs:seen.contains n = false:=by
    cases hc:seen.contains n with
    | false => rfl
    | true => exact absurd (by simpa using hc) hn
   simp only [hs,BEq.rfl,Bool.or_true,Bool.not_true,Bool.not_false]
   exact Nat.lt_succ_of_le (mono r)
  ·have:=ih h
   cases hs:seen.contains e.2.2 with
   | true => simp only [Bool.true_or,Bool.not_true]; exact this
   | false =>
    cases hx:(e.2.2 == n) with
    | true => simp only [Bool.or_true,Bool.not_true,Bool.not_false]; exact Nat.lt_succ_of_lt this
    | false => simp only [Bool.or_false,Bool.not_false]; exact Nat.succ_lt_succ this
theorem tr_mapwalk {it a b iti mi clock since id b0:Nat} {T ty ty1 ty2:TypeId} {pos1 pos2:String} {af1 af2:Array Edge} {bd:Code} {es:Ents} {S:List Nat → St} {st:St} {Q:Exit → St → Prop} (I:List Nat → Prop) (hI:I [])
  (hlt:∀ e ∈ es,e.2.2 < clock) (hsince:since = clock) (h0:Le P st (S [])) (hit:∀ seen,giter (S seen).σ (gev (S seen) (.tmp it)) = some (iti,T,some mi,since,seen,clock)) (hmap:∀ seen,gmap (S seen).σ (.mref mi) = some (mi,ty,es,clock))
  (hn:∀ seen,a < (S seen).n ∧ b < (S seen).n)
  (body:∀ seen k g n,I seen → (k,g,n) ∈ es → n ∉ seen → Tr P bd { S seen with fr:=(b,.lit (.bool true)) :: (a,.tup [.lit (.bool true),glit k,g]) :: (S seen).fr,σ:=(iti,some ⟨T,[],some (.iter (some mi) since (seen ++ [n]) clock)⟩) :: (S seen).σ } (Thn (fun s => I (seen ++ [n]) ∧ Le P s (S (seen ++ [n]))) (Blk' b0 Q)))
  (fin:∀ seen,I seen → (∀ e ∈ es,e.2.2 ∈ seen) → Q .normal { S seen with fr:=(b,.lit (.bool false)) :: (a,.tup [.lit (.bool false)]) :: (S seen).fr }) :
  Tr P (.block b0 (.loop (.seq (.region id #[⟨some a,.next (.tmp it) false,ty1,pos1,af1,none⟩,⟨some b,.extract (.tmp a) 0,ty2,pos2,af2,none⟩] false) (.seq (.cond (.tmp b) .skip (.exit b0)) bd)))) st Q:=by
 refine tr_block (tr_loop (fun q:{seen:List Nat // I seen} => S q.1) (fun q => (es.filter fun e => !q.1.contains e.2.2).length) ⟨[],hI⟩ h0 fun ⟨seen,hse⟩ => ?_)
 dsimp only
 have hok:gnextOk es seen clock = true:=by
  unfold gnextOk
  cases es with
  | nil => simp
  | cons e r =>
   have:=hlt e (by simp)
   simp only [List.isEmpty_cons,List.all_cons,show decide (e.2.2 ≥ clock) = false from decide_eq_false (by omega),Bool.false_and,Bool.and_false,Bool.not_false]
 refine tr_seq (tr_regionN (l:=[⟨some a,.next (.tmp it) false,ty1,pos1,af1,none⟩,⟨some b,.extract (.tmp a) 0,ty2,pos2,af2,none⟩]) (.inl ⟨rfl,?_⟩))
 refine (gs_next rfl (fun d e => by cases e; exact (hn seen).1) (hit seen) (hmap seen) hok).eqv fun s hs => ⟨s,?_,Eqv.refl _⟩
 have ext:∀ (g:G) (r:List G) (s1:St),s1.n = (S seen).n → fget s1.fr a = .tup (g :: r) → ∀ {K:St → Prop},K (s1.put (some b) g) → RunN P #[⟨some a,.next (.tmp it) false,ty1,pos1,af1,none⟩,⟨some b,.extract (.tmp a) 0,ty2,pos2,af2,none⟩] K [⟨some b,.extract (.tmp a) 0,ty2,pos2,af2,none⟩] s1:=by
  intro g r s1 h1 h2 K hK
  refine .inl ⟨rfl,((gs_val (g:=g) (fun d e => by cases e; rw [h1]; exact (hn seen).2) ?_).gsn).eqv fun s2 hs2 => ⟨s2,by rw [hs2]; exact hK,Eqv.refl _⟩⟩
  rw [ev_extract]
  show gextract 0 (fget s1.fr a) = some g
  rw [h2]
  rfl
 rcases hs with ⟨hc,rfl⟩ | ⟨k,g,n,hc,rfl⟩
 ·refine ext (.lit (.bool false)) [] _ ?_ ?_ ?_
  ·rfl
  ·show fget ((a,_) :: _) a = _
   rw [fget_cons,if_pos rfl]
  refine thn_n (tr_seq (tr_cond (t:=false) ?_ (tr_exit ?_)))
  ·show fget ((b,_) :: _) b = _
   rw [fget_cons,if_pos rfl]
  refine thn_x (by simp) (thn_x (by simp) ?_)
  simp only [Blk',if_pos]
  exact fin seen hse (gcands_none (fun e he => by rw [hsince]; exact hlt e he) hc)
 ·obtain ⟨h1,h2⟩:=gcands_some hc
  refine ext (.lit (.bool true)) [glit k,g] _ ?_ ?_ ?_
  ·rfl
  ·show fget ((a,_) :: _) a = _
   rw [fget_cons,if_pos rfl]
  refine thn_n (tr_seq (tr_cond (t:=true) ?_ (tr_skip ?_)))
  ·show fget ((b,_) :: _) b = _
   rw [fget_cons,if_pos rfl]
  exact thn_n (Tr.mono (body seen k g n hse h1 h2) fun e s hs => thn_mono (fun s h => ⟨⟨seen ++ [n],h.1⟩,h.2,left_less h1 h2⟩) (fun _ _ h => h) hs)
end
end
end Go.Proofs.YtpehhhbmobmedaaGreatDoor
