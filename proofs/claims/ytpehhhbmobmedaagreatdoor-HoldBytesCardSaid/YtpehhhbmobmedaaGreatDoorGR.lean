/- A machine of values over the model: regions that draw their order, anew: only what looks at objects has to be ordered to what writes them. -/
import Derived.Test.YtpehhhbmobmedaaGreatDoorGQ
namespace Go.Proofs.YtpehhhbmobmedaaGreatDoor
set_option linter.unusedVariables false
set_option linter.unusedSimpArgs false
set_option linter.unusedSectionVars false
open Go.RowKit
section
variable {P:Program}

def RG (P:Program) (o:Oper) (st:St) (g:G) (f:Nat):Prop:=∀ st',st'.n = st.n → st'.gl = st.gl → (∀ i,i < f → sget st'.σ i = sget st.σ i) → (∀ x ∈ o.op.operands,gev st' x = gev st x) → GS P o st' (st'.put o.dst g)
def BG (P:Program) (o:Oper) (st:St) (g:G) (σ:Sto) (c:Nat):Prop:=∀ st',st.like st' → (∀ x ∈ o.op.operands,gev st' x = gev st x) → GS P o st' ({ st' with σ:=σ,c:=c }.put o.dst g)

def isFree (o:Oper):Bool:=match o.op with
 | .move _ | .assign _ | .pick .. | .makeFunc .. | .extract .. | .field .. | .fieldAddr .. | .indexAddr .. | .index .. | .build .. | .binOp .. | .unOp .. | .nilCheck _ | .slice .. | .makeInterface .. => true
 | .call { callee:=.builtin .min,.. } | .call { callee:=.builtin .max,.. } => true
 | _ => false
/-! ### what stands behind what -/
inductive Reach (l:List Oper):Nat → Nat → Prop
 | one {i j:Nat} {o:Oper} (ho:l[j]? = some o) (h:edge o i = true):Reach l i j
 | step {i k j:Nat} {o:Oper} (ho:l[j]? = some o) (h:edge o k = true) (hr:Reach l i k):Reach l i j
def nadd (n:Nat) (l:List Nat):List Nat:=bif l.any (Nat.beq n) then l else n :: l
theorem mem_nadd {n m:Nat} {l:List Nat} (h:m ∈ nadd n l):m = n ∨ m ∈ l:=by
 unfold nadd at h
 cases hb:l.any (Nat.beq n) with
 | true => rw [hb] at h; exact .inr h
 | false => rw [hb] at h; exact List.mem_cons.1 h
def nunion:List Nat → List Nat → List Nat
 | [],s => s
 | n :: r,s => nunion r (nadd n s)
theorem mem_nunion {m:Nat}:∀ {a s:List Nat},m ∈ nunion a s → m ∈ a ∨ m ∈ s
 | [],s,h => .inr h
 | n :: r,s,h => by
  rcases mem_nunion (a:=r) h with h | h
  ·exact .inl (List.mem_cons_of_mem _ h)
  ·rcases mem_nadd h with h | h
   ·exact .inl (by rw [h]; simp)
   ·exact .inr h
def reachOne (acc:List (List Nat)):List Edge → List Nat → List Nat
 | [],s => s
 | e :: r,s => reachOne acc r (bif Region.binds .any e then nadd e.on (nunion ((acc[e.on]?).getD []) s) else s)
def reachGo:List Oper → List (List Nat) → List (List Nat)
 | [],acc => acc
 | o :: r,acc => reachGo r (acc ++ [reachOne acc o.after.toList []])
theorem reachOne_ok {l:List Oper} {acc:List (List Nat)} (hacc:∀ j s i,acc[j]? = some s → i ∈ s → Reach l i j) {j:Nat} {o:Oper} (ho:l[j]? = some o):∀ (es:List Edge) (s:List Nat),(∀ e ∈ es,e ∈ o.after.toList) → (∀ i ∈ s,Reach l i j) → ∀ i ∈ reachOne acc es s,Reach l i j
 | [],s,hes,hs => hs
 | e :: r,s,hes,hs => by
  refine reachOne_ok hacc ho r _ (fun x hx => hes x (List.mem_cons_of_mem _ hx)) fun i hi => ?_
  cases hb:Region.binds .any e with
  | false => rw [hb] at hi; exact hs i hi
  | true =>
   rw [hb] at hi
   have hed:edge o e.on = true:=by
    unfold edge
    rw [Array.any_eq_true']
    exact ⟨e,by simpa using hes e (by simp),by simp [hb]⟩
   rcases mem_nadd hi with h | h
   ·rw [h]; exact .one ho hed
   ·rcases mem_nunion h with h | h
    ·cases ha:acc[e.on]? with
     | none => rw [ha] at h; simp at h
     | some s' => rw [ha] at h; exact .step ho hed (hacc e.on s' i ha h)
    ·exact hs i h
theorem reachGo_ok {l:List Oper}:∀ (r done:List Oper) (acc:List (List Nat)),l = done ++ r → acc.length = done.length → (∀ j s i,acc[j]? = some s → i ∈ s → Reach l i j) → ∀ j s i,(reachGo r acc)[j]? = some s → i ∈ s → Reach l i j
 | [],done,acc,hl,hlen,hacc => hacc
 | o :: r,done,acc,hl,hlen,hacc => by
  refine reachGo_ok r (done ++ [o]) _ (by simp [hl]) (by simp [hlen]) fun j s i hj hi => ?_
  rcases Nat.lt_or_ge j acc.length with h | h
  ·rw [List.getElem?_append_left h] at hj
   exact hacc j s i hj hi
  ·rw [List.getElem?_append_right h] at hj
   have hj0:j - acc.length = 0:=by
    have:=(List.getElem?_eq_some_iff.1 hj).1
    simp at this; omega
   rw [hj0] at hj
   simp at hj
   subst hj
   have hjd:j = done.length:=by omega
   refine reachOne_ok hacc (o:=o) ?_ _ _ (fun e he => he) (by simp) i hi
   rw [hl,hjd,List.getElem?_append_right (Nat.le_refl _)]; simp
def reaches (R:List (List Nat)) (i j:Nat):Bool:=((R[j]?).getD []).any (Nat.beq i)
theorem reaches_ok {l:List Oper} {i j:Nat} (h:reaches (reachGo l []) i j = true):Reach l i j:=by
 obtain ⟨x,hx,hb⟩:=List.any_eq_true.1 h
 have:=Nat.eq_of_beq_eq_true hb
 subst this
 cases hj:(reachGo l [])[j]? with
 | none => rw [hj] at hx; simp at hx
 | some s => rw [hj] at hx; exact reachGo_ok l [] [] rfl rfl (by simp) j s _ hj hx

inductive OI where
 | rd (f:Nat)
 | wr (low:Nat)
 deriving Inhabited
def OI.isWr:OI → Bool
 | .rd _ => false
 | .wr _ => true
def okP:OI → OI → Bool
 | .wr _,.wr _ => false
 | .wr low,.rd f => Nat.ble f low
 | .rd f,.wr low => Nat.ble f low
 | .rd _,.rd _ => true
def drawStat (l:List Oper) (n:Nat):Bool :=
 (fun R => (List.range l.length).all fun j => match l[j]? with
  | none => true
  | some o =>
   (match o.dst with | some d => Nat.ble (d + 1) n | none => true) &&
   o.after.toList.all (fun e => !Region.binds .any e || Nat.ble (e.on + 1) j) &&
   (List.range l.length).all (fun i => match (l[i]?).bind (·.dst) with
    | none => true
    | some d => (Nat.beq i j || o.dst != some d) && (!(looks l o).any (Nat.beq d) || (Nat.ble (i + 1) j && edge o i || Nat.ble (j + 1) i && reaches R j i)))) (reachGo l [])
def drawPairs (l:List Oper):List (Nat × Nat) :=
 (fun R => (List.range l.length).flatMap fun j => match l[j]? with
  | none => []
  | some o => bif isFree o then [] else (List.range j).filterMap fun i => match l[i]? with
   | none => none
   | some oi => bif isFree oi || reaches R i j then none else some (i,j)) (reachGo l [])
def drawOk3 (l:List Oper) (inf:List OI) (n:Nat):Bool:=drawStat l n && (drawPairs l).all fun q => okP (inf.getD q.1 (.rd 0)) (inf.getD q.2 (.rd 0))

def StepR (P:Program) (ops:Array Oper) (inf:OI) (o:Oper) (g:G) (st st':St):Prop :=
 (isFree o = true → inf = .rd 0) ∧
 ((gwant st ops o = some true ∧ ((∃ low σ c,inf = .wr low ∧ st' = { st with σ:=σ,c:=c }.put o.dst g ∧ BG P o st g σ c ∧ ∀ i,i < low → sget σ i = sget st.σ i) ∨ (∃ f,inf = .rd f ∧ st' = st.put o.dst g ∧ RG P o st g f))) ∨
 (gwant st ops o = some false ∧ g = .lit undef ∧ st' = st.put o.dst g ∧ inf = .rd 0))
def RunR (P:Program) (ops:Array Oper) (K:St → Prop):List Oper → List OI → St → Prop
 | [],[],st => K st
 | o :: rest,i :: inf,st => ∃ g st',StepR P ops i o g st st' ∧ RunR P ops K rest inf st'
 | _,_,_ => False
theorem runR_states {ops:Array Oper} {K:St → Prop}:∀ (l:List Oper) (inf:List OI) (st:St),RunR P ops K l inf st →
  ∃ (sts:Nat → St) (gs:Nat → G),sts 0 = st ∧ K (sts l.length) ∧ ∀ i o,l[i]? = some o → StepR P ops (inf.getD i (.rd 0)) o (gs i) (sts i) (sts (i + 1))
 | [],[],st,h => ⟨fun _ => st,fun _ => .junk,rfl,h,by simp⟩
 | o :: rest,q :: inf,st,⟨g,st1,hs,hr⟩ => by
  obtain ⟨sts,gs,h1,h2,h3⟩:=runR_states rest inf st1 hr
  refine ⟨fun i => match i with | 0 => st | i + 1 => sts i,fun i => match i with | 0 => g | i + 1 => gs i,rfl,h2,fun i o' ho => ?_⟩
  cases i with
  | zero => simp at ho; subst ho; simpa [h1] using hs
  | succ i => simpa using h3 i o' (by simpa using ho)
 | o :: rest,[],st,h => h.elim
 | [],q :: inf,st,h => h.elim
theorem StepR.like {ops:Array Oper} {inf:OI} {o:Oper} {g:G} {st st':St} (h:StepR P ops inf o g st st'):st'.n = st.n ∧ (st'.gl = st.gl ∧ st'.pr = st.pr) ∧ (∀ t,fget st'.fr t = if o.dst = some t then g else fget st.fr t) ∧ (inf.isWr = false → st'.σ = st.σ ∧ st'.c = st.c) ∧ ∀ f,okP inf (.rd f) = true → ∀ i,i < f → sget st'.σ i = sget st.σ i:=by
 have hp:∀ (s:St),(s.put o.dst g).n = s.n ∧ ((s.put o.dst g).gl = s.gl ∧ (s.put o.dst g).pr = s.pr) ∧ (∀ t,fget (s.put o.dst g).fr t = if o.dst = some t then g else fget s.fr t) ∧ (s.put o.dst g).σ = s.σ ∧ (s.put o.dst g).c = s.c:=fun s => by
  cases o.dst with
  | none => exact ⟨rfl,⟨rfl,rfl⟩,fun t => by simp [St.put],rfl,rfl⟩
  | some d => exact ⟨rfl,⟨rfl,rfl⟩,fun t => by simp [St.put,fget_cons],rfl,rfl⟩
 rcases h with ⟨_,⟨_,⟨low,σ,c,rfl,rfl,_,hb⟩ | ⟨f,rfl,rfl,_⟩⟩ | ⟨_,_,rfl,rfl⟩⟩
 ·obtain ⟨a,b,c',d,e⟩:=hp { st with σ:=σ,c:=c }
  exact ⟨a,b,c',(fun h => by cases h),fun f hf i hi => by rw [d]; exact hb i (Nat.lt_of_lt_of_le hi (Nat.le_of_ble_eq_true hf))⟩
 ·obtain ⟨a,b,c',d,e⟩:=hp st
  exact ⟨a,b,c',fun _ => ⟨d,e⟩,fun f _ i _ => by rw [d]⟩
 ·obtain ⟨a,b,c',d,e⟩:=hp st
  exact ⟨a,b,c',fun _ => ⟨d,e⟩,fun f _ i _ => by rw [d]⟩

section draw
variable {l:List Oper} {inf:List OI} {st:St} {K:St → Prop} {cx:Cx} {Q:Exit → Act → World → Prop}
abbrev infAt (inf:List OI) (j:Nat):OI:=inf.getD j (.rd 0)
structure RFacts (P:Program) (l:List Oper) (inf:List OI) (st:St) (sts:Nat → St) (gs:Nat → G):Prop where
 zero:sts 0 = st
 dstn:∀ (j:Nat) (o:Oper) (d:Tmp),l[j]? = some o → o.dst = some d → d < st.n
 step:∀ i o,l[i]? = some o → StepR P l.toArray (infAt inf i) o (gs i) (sts i) (sts (i + 1))
 edges:∀ j o,l[j]? = some o → ∀ e ∈ o.after,Region.binds .any e = true → e.on < j
 uniq:∀ i j d,dsts l i = some d → dsts l j = some d → i = j
 look:∀ i j o d,l[j]? = some o → dsts l i = some d → d ∈ looks l o → (i < j ∧ edge o i = true) ∨ (j < i ∧ Reach l j i)
 pair:∀ i j,i < j → j < l.length → Reach l i j ∨ okP (infAt inf i) (infAt inf j) = true

theorem any_beq {d:Nat} {s:List Nat} (h:d ∈ s):s.any (Nat.beq d) = true:=List.any_eq_true.2 ⟨d,h,Nat.beq_refl d⟩
theorem drawOk3_facts {sts:Nat → St} {gs:Nat → G} (h:drawOk3 l inf st.n = true) (h0:sts 0 = st) (hs:∀ i o,l[i]? = some o → StepR P l.toArray (infAt inf i) o (gs i) (sts i) (sts (i + 1))):RFacts P l inf st sts gs:=by
 simp only [drawOk3,Bool.and_eq_true] at h
 obtain ⟨h,hpair⟩:=h
 have hj:∀ j o,l[j]? = some o → j < l.length:=fun j o ho => (List.getElem?_eq_some_iff.1 ho).1
 have key:=fun j o (ho:l[j]? = some o) => by
  have:=List.all_eq_true.1 h j (List.mem_range.2 (hj j o ho))
  rw [ho] at this
  simp only [Bool.and_eq_true] at this
  exact this
 refine ⟨h0,fun j o d ho hd => ?_,hs,fun j o ho e he hb => ?_,fun i j d hi hj' => ?_,fun i j o d ho hi hl => ?_,fun i j hij hjl => ?_⟩
 ·have:=(key j o ho).1.1
  rw [hd] at this
  exact Nat.le_of_ble_eq_true this
 ·have:=List.all_eq_true.1 (key j o ho).1.2 e (by simpa using he)
  rw [hb] at this
  simp only [Bool.not_true,Bool.false_or] at this
  exact Nat.le_of_ble_eq_true this
 ·cases hoj:l[j]? with
  | none => simp [dsts,hoj] at hj'
  | some oj =>
   cases hoi:l[i]? with
   | none => simp [dsts,hoi] at hi
   | some oi =>
    have:=List.all_eq_true.1 (key j oj hoj).2 i (List.mem_range.2 (hj i oi hoi))
    have hi':(l[i]?).bind (·.dst) = some d:=hi
    have hj'':oj.dst = some d:=by simpa [dsts,hoj] using hj'
    rw [hi'] at this
    simp only [Bool.and_eq_true,Bool.or_eq_true,bne_iff_ne] at this
    rcases this.1 with h1 | h1
    ·exact Nat.eq_of_beq_eq_true h1
    ·exact absurd hj'' h1
 ·cases hoi:l[i]? with
  | none => simp [dsts,hoi] at hi
  | some oi =>
   have:=List.all_eq_true.1 (key j o ho).2 i (List.mem_range.2 (hj i oi hoi))
   have hi':(l[i]?).bind (·.dst) = some d:=hi
   rw [hi'] at this
   simp only [Bool.and_eq_true,Bool.or_eq_true,Bool.not_eq_true'] at this
   rcases this.2 with h1 | h1
   ·rw [any_beq hl] at h1; cases h1
   ·rcases h1 with h1 | h1
    ·exact .inl ⟨Nat.le_of_ble_eq_true h1.1,h1.2⟩
    ·exact .inr ⟨Nat.le_of_ble_eq_true h1.1,reaches_ok h1.2⟩
 ·have hoj:l[j]? = some (l[j]'hjl):=List.getElem?_eq_getElem hjl
  have hoi:l[i]? = some (l[i]'(by omega)):=List.getElem?_eq_getElem (by omega)
  have hfree:∀ k o,l[k]? = some o → isFree o = true → infAt inf k = .rd 0:=fun k o ho hf => (hs k o ho).1 hf
  have hzero:∀ q:OI,okP (.rd 0) q = true ∧ okP q (.rd 0) = true:=fun q => by cases q <;> exact ⟨rfl,rfl⟩
  cases hfj:isFree (l[j]'hjl) with
  | true => right; rw [hfree j _ hoj hfj]; exact (hzero _).2
  | false =>
   cases hfi:isFree (l[i]'(by omega)) with
   | true => right; rw [hfree i _ hoi hfi]; exact (hzero _).1
   | false =>
    cases hr:reaches (reachGo l []) i j with
    | true => exact .inl (reaches_ok hr)
    | false =>
     right
     have hm:(i,j) ∈ drawPairs l:=by
      unfold drawPairs
      rw [List.mem_flatMap]
      refine ⟨j,List.mem_range.2 hjl,?_⟩
      rw [hoj]
      simp only [hfj,cond_false]
      rw [List.mem_filterMap]
      refine ⟨i,List.mem_range.2 hij,?_⟩
      rw [hoi]
      simp [hfi,hr]
     exact List.all_eq_true.1 hpair (i,j) hm

variable {sts:Nat → St} {gs:Nat → G}
theorem RFacts.ngl (F:RFacts P l inf st sts gs):∀ i,i ≤ l.length → (sts i).n = st.n ∧ (sts i).gl = st.gl ∧ (sts i).pr = st.pr
 | 0,_ => by rw [F.zero]; exact ⟨rfl,rfl,rfl⟩
 | i + 1,hi => by
  obtain ⟨a,b,b'⟩:=F.ngl i (by omega)
  obtain ⟨c,⟨d,d'⟩,_⟩:=(F.step i _ (List.getElem?_eq_getElem (by omega))).like
  exact ⟨c.trans a,d.trans b,d'.trans b'⟩
theorem RFacts.fr1 (F:RFacts P l inf st sts gs) {j:Nat} {t:Tmp} (hd:dsts l j = some t):∀ i,j < i → i ≤ l.length → fget (sts i).fr t = gs j
 | 0,h,_ => by omega
 | i + 1,h,hi => by
  have ho:l[i]? = some (l[i]'(by omega)):=List.getElem?_eq_getElem (by omega)
  obtain ⟨_,_,c,_⟩:=(F.step i _ ho).like
  rw [c t]
  by_cases e:j = i
  ·subst e
   have:(l[j]'(by omega)).dst = some t:=by simpa [dsts,ho] using hd
   rw [if_pos this]
  ·have:(l[i]'(by omega)).dst ≠ some t:=fun x => e (F.uniq j i t hd (by simp [dsts,ho,x]))
   rw [if_neg this]
   exact F.fr1 hd i (by omega) (by omega)
theorem RFacts.fr2 (F:RFacts P l inf st sts gs) {t:Tmp}:∀ i,i ≤ l.length → (∀ j,j < i → dsts l j ≠ some t) → fget (sts i).fr t = fget st.fr t
 | 0,_,_ => by rw [F.zero]
 | i + 1,hi,h => by
  have ho:l[i]? = some (l[i]'(by omega)):=List.getElem?_eq_getElem (by omega)
  obtain ⟨_,_,c,_⟩:=(F.step i _ ho).like
  rw [c t,if_neg (fun x => h i (by omega) (by simp [dsts,ho,x]))]
  exact F.fr2 i (by omega) (fun j hj => h j (by omega))
theorem RFacts.sto (F:RFacts P l inf st sts gs) {a:Nat}:∀ b,a ≤ b → b ≤ l.length → (∀ k,a ≤ k → k < b → (infAt inf k).isWr = false) → (sts b).σ = (sts a).σ ∧ (sts b).c = (sts a).c
 | 0,h,_,_ => by
           obtain rfl:a = 0:=by omega
           exact ⟨rfl,rfl⟩
 | b + 1,h,hl,hb => by
  by_cases e:a = b + 1
  ·subst e; exact ⟨rfl,rfl⟩
  ·have ho:l[b]? = some (l[b]'(by omega)):=List.getElem?_eq_getElem (by omega)
   obtain ⟨_,_,_,d,_⟩:=(F.step b _ ho).like
   obtain ⟨d1,d2⟩:=d (hb b (by omega) (by omega))
   obtain ⟨e1,e2⟩:=F.sto b (by omega) (by omega) (fun k h1 h2 => hb k h1 (by omega))
   exact ⟨d1.trans e1,d2.trans e2⟩
theorem RFacts.stoF (F:RFacts P l inf st sts gs) {a f:Nat}:∀ b,a ≤ b → b ≤ l.length → (∀ k,a ≤ k → k < b → okP (infAt inf k) (.rd f) = true) → ∀ i,i < f → sget (sts b).σ i = sget (sts a).σ i
 | 0,h,_,_ => by
           obtain rfl:a = 0:=by omega
           exact fun _ _ => rfl
 | b + 1,h,hl,hb => fun i hi => by
  by_cases e:a = b + 1
  ·subst e; rfl
  ·have ho:l[b]? = some (l[b]'(by omega)):=List.getElem?_eq_getElem (by omega)
   obtain ⟨_,_,_,_,d⟩:=(F.step b _ ho).like
   exact (d f (hb b (by omega) (by omega)) i hi).trans (F.stoF b (by omega) (by omega) (fun k h1 h2 => hb k h1 (by omega)) i hi)

structure RInv (P:Program) (l:List Oper) (inf:List OI) (st:St) (sts:Nat → St) (gs:Nat → G) (cx:Cx) (L:Array Bool) (a:Act) (w:World) (m:Nat) (st':St):Prop where
 size:L.size = l.length
 closed:∀ j o,L.getD j false = true → l[j]? = some o → ∀ e ∈ o.after,Region.binds .any e = true → L.getD e.on false = true
 hm:m ≤ l.length
 bar:∀ b,b < l.length → (infAt inf b).isWr = true → (L.getD b false = true ↔ b < m)
 rel:Rel P cx st' a w
 n:st'.n = st.n
 gl:st'.gl = st.gl
 σ:st'.σ = (sts m).σ
 c:st'.c = (sts m).c
 p:st'.pr = st.pr
 f1:∀ j t,L.getD j false = true → dsts l j = some t → fget st'.fr t = gs j
 f2:∀ t,(∀ j,L.getD j false = true → dsts l j ≠ some t) → fget st'.fr t = fget st.fr t

theorem reach_done {L:Array Bool} (hcl:∀ j o,L.getD j false = true → l[j]? = some o → ∀ e ∈ o.after,Region.binds .any e = true → L.getD e.on false = true) {i j:Nat} (h:Reach l i j):(L.getD j false = true ∨ ∃ oj,l[j]? = some oj ∧ ∀ e ∈ oj.after,Region.binds .any e = true → L.getD e.on false = true) → L.getD i false = true:=by
 induction h with
 | one ho h =>
  intro hj
  obtain ⟨e,he,hb,hon⟩:=edge_spec h
  rcases hj with hj | ⟨oj,ho',hr⟩
  ·rw [← hon]; exact hcl _ _ hj ho e he hb
  ·rw [ho] at ho'; cases ho'
   rw [← hon]; exact hr e he hb
 | step ho h hr ih =>
  intro hj
  obtain ⟨e,he,hb,hon⟩:=edge_spec h
  refine ih (.inl ?_)
  rcases hj with hj | ⟨oj,ho',hr'⟩
  ·rw [← hon]; exact hcl _ _ hj ho e he hb
  ·rw [ho] at ho'; cases ho'
   rw [← hon]; exact hr' e he hb
theorem okP_wr {a b:OI} (ha:a.isWr = true) (hb:b.isWr = true):okP a b = false:=by cases a <;> cases b <;> first | rfl | (simp [OI.isWr] at ha hb; done)
theorem RInv.ahead (F:RFacts P l inf st sts gs) {L:Array Bool} {a:Act} {w:World} {m:Nat} {st':St} (I:RInv P l inf st sts gs cx L a w m st') {j:Nat} {o:Oper} (ho:l[j]? = some o) (hr:∀ e ∈ o.after,Region.binds .any e = true → L.getD e.on false = true) (hb:(infAt inf j).isWr = true) {i:Nat} (hbi:(infAt inf i).isWr = true) (hij:i < j):L.getD i false = true:=by
 rcases F.pair i j hij (List.getElem?_eq_some_iff.1 ho).1 with h | h
 ·exact reach_done I.closed h (.inr ⟨o,ho,hr⟩)
 ·rw [okP_wr hbi hb] at h; cases h
theorem RInv.same (F:RFacts P l inf st sts gs) {L:Array Bool} {a:Act} {w:World} {m:Nat} {st':St} (I:RInv P l inf st sts gs cx L a w m st') {j:Nat} {o:Oper} (ho:l[j]? = some o) (hr:∀ e ∈ o.after,Region.binds .any e = true → L.getD e.on false = true) (hL:L.getD j false = false) {t:Tmp} (ht:t ∈ looks l o):fget st'.fr t = fget (sts j).fr t:=by
 have hjl:=(List.getElem?_eq_some_iff.1 ho).1
 by_cases hx:∃ i,dsts l i = some t
 ·obtain ⟨i,hi⟩:=hx
  rcases F.look i j o t ho hi ht with ⟨h1,h2⟩ | ⟨h1,h2⟩
  ·obtain ⟨e,he,hbe,hon⟩:=edge_spec h2
   have hL:L.getD i false = true:=by rw [← hon]; exact hr e he hbe
   rw [I.f1 i t hL hi,F.fr1 hi j h1 (by omega)]
  ·have hiu:L.getD i false = false:=by
    cases hd:L.getD i false with
    | false => rfl
    | true => have:=reach_done I.closed h2 (.inl hd); rw [hL] at this; cases this
   rw [I.f2 t (fun k hk h => by
    have:=F.uniq k i t h hi
    subst this
    rw [hiu] at hk; cases hk),F.fr2 j (by omega) (fun k hk h => by
    have:=F.uniq k i t h hi
    omega)]
 ·rw [I.f2 t (fun i _ h => hx ⟨i,h⟩),F.fr2 j (by omega) (fun i _ h => hx ⟨i,h⟩)]
theorem RInv.stoW (F:RFacts P l inf st sts gs) {L:Array Bool} {a:Act} {w:World} {m:Nat} {st':St} (I:RInv P l inf st sts gs cx L a w m st') {j:Nat} {o:Oper} (ho:l[j]? = some o) (hb:(infAt inf j).isWr = true) (hr:∀ e ∈ o.after,Region.binds .any e = true → L.getD e.on false = true) (hL:L.getD j false = false):m ≤ j ∧ st'.σ = (sts j).σ ∧ st'.c = (sts j).c:=by
 have hjl:=(List.getElem?_eq_some_iff.1 ho).1
 have hmj:m ≤ j:=by
  rcases Nat.lt_or_ge j m with h | h
  ·have:=(I.bar j hjl hb).2 h; rw [hL] at this; cases this
  ·exact h
 rw [I.σ,I.c]
 have:=F.sto (a:=m) j hmj (by omega) (fun b h1 h2 => by
  cases hbb:(infAt inf b).isWr with
  | false => rfl
  | true =>
   have h3:=I.ahead F ho hr hb hbb h2
   have:=(I.bar b (by omega) hbb).1 h3
   omega)
 exact ⟨hmj,this.1.symm,this.2.symm⟩
theorem RInv.stoR (F:RFacts P l inf st sts gs) {L:Array Bool} {a:Act} {w:World} {m:Nat} {st':St} (I:RInv P l inf st sts gs cx L a w m st') {j f:Nat} {o:Oper} (ho:l[j]? = some o) (hf:infAt inf j = .rd f) (hr:∀ e ∈ o.after,Region.binds .any e = true → L.getD e.on false = true) (hL:L.getD j false = false):∀ i,i < f → sget st'.σ i = sget (sts j).σ i:=by
 have hjl:=(List.getElem?_eq_some_iff.1 ho).1
 intro i hi
 rw [I.σ]
 have sym:∀ (x y:OI),okP x y = okP y x:=fun x y => by cases x <;> cases y <;> rfl
 have hrd:∀ x:OI,x.isWr = false → okP x (.rd f) = true:=fun x hx => by cases x <;> first | rfl | cases hx
 rcases Nat.le_total m j with hmj | hjm
 ·refine (F.stoF (a:=m) (f:=f) j hmj (by omega) (fun b h1 h2 => ?_) i hi).symm
  cases hbb:(infAt inf b).isWr with
  | false => exact hrd _ hbb
  | true =>
   rcases F.pair b j h2 hjl with h3 | h3
   ·have h4:=reach_done I.closed h3 (.inr ⟨o,ho,hr⟩)
    have:=(I.bar b (by omega) hbb).1 h4
    omega
   ·rw [hf] at h3; exact h3
 ·refine F.stoF (a:=j) (f:=f) m hjm I.hm (fun b h1 h2 => ?_) i hi
  cases hbb:(infAt inf b).isWr with
  | false => exact hrd _ hbb
  | true =>
   have hm:=I.hm
   have hLb:=(I.bar b (by omega) hbb).2 h2
   by_cases e:b = j
   ·subst e; rw [hL] at hLb; cases hLb
   ·rcases F.pair j b (by omega) (by omega) with h3 | h3
    ·have:=reach_done I.closed h3 (.inl hLb)
     rw [hL] at this; cases this
    ·rw [hf,sym] at h3; exact h3

theorem RInv.next (F:RFacts P l inf st sts gs) {L:Array Bool} {a a':Act} {w w':World} {m:Nat} {st':St} (I:RInv P l inf st sts gs cx L a w m st') {j:Nat} {o:Oper} (ho:l[j]? = some o) (hr:∀ e ∈ o.after,Region.binds .any e = true → L.getD e.on false = true) (hL:L.getD j false = false) {σ:Sto} {c:Nat} {m2:Nat}
  (hrel:Rel P cx ({ st' with σ:=σ,c:=c }.put o.dst (gs j)) a' w') (hm2:((infAt inf j).isWr = false ∧ m2 = m) ∨ ((infAt inf j).isWr = true ∧ m2 = j + 1)) (hσ:σ = (sts m2).σ) (hc:c = (sts m2).c):∃ m2 st2,RInv P l inf st sts gs cx (L.setIfInBounds j true) a' w' m2 st2:=by
 have hjl:=(List.getElem?_eq_some_iff.1 ho).1
 have hjs:j < L.size:=by rw [I.size]; exact hjl
 have hcl:∀ k ok,(L.setIfInBounds j true).getD k false = true → l[k]? = some ok → ∀ e ∈ ok.after,Region.binds .any e = true → (L.setIfInBounds j true).getD e.on false = true:=by
  intro k ok hk hok e he hbe
  rw [getD_set hjs]
  split
  ·rfl
  ·rw [getD_set hjs] at hk
   by_cases ek:j = k
   ·subst ek; rw [ho] at hok; cases hok; exact hr e he hbe
   ·rw [if_neg ek] at hk
    exact I.closed k ok hk hok e he hbe
 have hpf:∀ t,fget ({ st' with σ:=σ,c:=c }.put o.dst (gs j)).fr t = if o.dst = some t then gs j else fget st'.fr t:=fun t => by
  cases hd':o.dst with
  | none => simp [St.put]
  | some d =>
   show fget ((d,gs j) :: st'.fr) t = _
   rw [fget_cons]
   by_cases e:d = t <;> simp [e]
 refine ⟨m2,_,{ size:=by simp [I.size],closed:=hcl,hm:=?_,bar:=fun b hbl hbb => ?_,rel:=hrel,n:=?_,gl:=?_,σ:=?_,c:=?_,p:=?_,f1:=fun k t hk hd => ?_,f2:=fun t ht => ?_ }⟩
 ·rcases hm2 with ⟨_,rfl⟩ | ⟨_,rfl⟩
  ·exact I.hm
  ·exact hjl
 ·rw [getD_set hjs]
  rcases hm2 with ⟨hb,rfl⟩ | ⟨hb,rfl⟩
  ·rw [if_neg (fun e => by subst e; rw [hb] at hbb; cases hbb)]
   exact I.bar b hbl hbb
  ·by_cases e:j = b
   ·subst e; simp
   ·rw [if_neg e]
    rcases Nat.lt_or_ge b j with h | h
    ·simp only [I.ahead F ho hr hb hbb h,true_iff]; omega
    ·have hjb:j < b:=by omega
     refine ⟨fun hLb => ?_,fun hlt => by omega⟩
     rcases F.pair j b hjb hbl with h3 | h3
     ·have:=reach_done I.closed h3 (.inl hLb)
      rw [hL] at this; cases this
     ·rw [okP_wr hb hbb] at h3; cases h3
 ·rw [← I.n]; cases o.dst <;> rfl
 ·rw [← I.gl]; cases o.dst <;> rfl
 ·rw [← hσ]; cases o.dst <;> rfl
 ·rw [← hc]; cases o.dst <;> rfl
 ·rw [← I.p]; cases o.dst <;> rfl
 ·rw [hpf]
  by_cases e:j = k
  ·subst e
   have:o.dst = some t:=by simpa [dsts,ho] using hd
   rw [if_pos this]
  ·rw [if_neg (fun x => e (F.uniq j k t (by simp [dsts,ho,x]) hd))]
   rw [getD_set hjs,if_neg e] at hk
   exact I.f1 k t hk hd
 ·rw [hpf,if_neg (fun x => ht j (by rw [getD_set hjs,if_pos rfl]) (by simp [dsts,ho,x]))]
  exact I.f2 t (fun k hk => ht k (by
   rw [getD_set hjs]
   split
   ·rfl
   ·exact hk))
theorem RInv.run (F:RFacts P l inf st sts gs) (hK:∀ a w,Rel P cx (sts l.length) a w → Q .normal a w):∀ (fuel:Nat) (L:Array Bool) (a:Act) (w:World) (m:Nat) (st':St),L.toList.count false ≤ fuel → RInv P l inf st sts gs cx L a w m st' → wpAnyIn cx.F cx.nn P .any l.toArray Q fuel L a w:=by
 have done:∀ (L:Array Bool) (a:Act) (w:World) (m:Nat) (st':St),RInv P l inf st sts gs cx L a w m st' → (∀ j,j < l.length → L.getD j false = true) → Q .normal a w:=by
  intro L a w m st' I hall
  obtain ⟨hn,hg,hp⟩:=F.ngl l.length (Nat.le_refl _)
  obtain ⟨s1,s2⟩:=F.sto (a:=m) l.length I.hm (Nat.le_refl _) (fun b h1 h2 => by
   cases hb:(infAt inf b).isWr with
   | false => rfl
   | true => have:=(I.bar b h2 hb).1 (hall b h2); omega)
  refine hK a w (I.rel.congr (hn.trans I.n.symm) (hg.trans I.gl.symm) (fun t => ?_) (s1.trans I.σ.symm) (s2.trans I.c.symm) (hp.trans I.p.symm))
  by_cases hx:∃ i,dsts l i = some t
  ·obtain ⟨i,hi⟩:=hx
   have hil:i < l.length:=by
    rcases Nat.lt_or_ge i l.length with h | h
    ·exact h
    ·simp [dsts,List.getElem?_eq_none h] at hi
   rw [F.fr1 hi l.length hil (Nat.le_refl _),I.f1 i t (hall i hil) hi]
  ·rw [F.fr2 l.length (Nat.le_refl _) (fun i _ h => hx ⟨i,h⟩),I.f2 t (fun i _ h => hx ⟨i,h⟩)]
 have empty:∀ (L:Array Bool) (a:Act) (w:World) (m:Nat) (st':St),RInv P l inf st sts gs cx L a w m st' → Region.ready .any l.toArray L = [] → ∀ j,j < l.length → L.getD j false = true:=by
  intro L a w m st' I hr j
  induction j using Nat.strongRecOn with
  | _ j ih =>
   intro hj
   cases h:L.getD j false with
   | true => rfl
   | false =>
    have:j ∈ Region.ready .any l.toArray L:=by
     rw [mem_ready]
     have ho:l[j]? = some (l[j]'hj):=List.getElem?_eq_getElem hj
     refine ⟨?_,l[j]'hj,by simp,fun e he hbe => ?_⟩
     ·have hs:j < L.size:=by rw [I.size]; exact hj
      simp [hs] at h ⊢; exact h
     ·have:=F.edges j _ ho e he hbe
      exact ih e.on this (by omega)
    rw [hr] at this
    cases this
 intro fuel
 induction fuel with
 | zero =>
  intro L a w m st' hc I
  have hall:∀ j,j < l.length → L.getD j false = true:=by
   intro j hj
   have hs:j < L.size:=by rw [I.size]; exact hj
   have h0:L.toList.count false = 0:=by omega
   rw [List.count_eq_zero] at h0
   cases h:L.getD j false with
   | true => rfl
   | false =>
    simp [hs] at h
    exact absurd (by rw [← h]; simp:false ∈ L.toList) h0
  refine ⟨?_,done L a w m st' I hall⟩
  cases hr:Region.ready .any l.toArray L with
  | nil => rfl
  | cons x xs =>
   have hx:x ∈ Region.ready .any l.toArray L:=by rw [hr]; simp
   obtain ⟨h1,o,ho,_⟩:=mem_ready.1 hx
   have hxl:x < l.length:=by have:=(Array.getElem?_eq_some_iff.1 ho).1; simpa using this
   have hs:x < L.size:=by rw [I.size]; exact hxl
   have:=hall x hxl
   simp [hs] at h1 this
   rw [h1] at this; cases this
 | succ fuel ih =>
  intro L a w m st' hc I
  refine ⟨fun hr => done L a w m st' I (empty L a w m st' I hr),fun j hj => ?_⟩
  obtain ⟨h1,o,ho',hr⟩:=mem_ready.1 hj
  have ho:l[j]? = some o:=by simpa using ho'
  have hjl:=(List.getElem?_eq_some_iff.1 ho).1
  have hs:j < L.size:=by rw [I.size]; exact hjl
  have hL:L.getD j false = false:=by simp [hs] at h1 ⊢; exact h1
  have hcnt:(L.setIfInBounds j true).toList.count false ≤ fuel:=by
   have:=count_set L.toList j (by simp [hs] at h1; simp [hs,h1])
   rw [Array.toList_setIfInBounds]
   omega
  have next:∀ (σ:Sto) (c m2:Nat) a' w',Rel P cx ({ st' with σ:=σ,c:=c }.put o.dst (gs j)) a' w' → (((infAt inf j).isWr = false ∧ m2 = m) ∨ ((infAt inf j).isWr = true ∧ m2 = j + 1)) → σ = (sts m2).σ → c = (sts m2).c → wpAnyIn cx.F cx.nn P .any l.toArray Q fuel (L.setIfInBounds j true) a' w':=by
   intro σ c m2 a' w' h h2 h3 h4
   obtain ⟨m2,st2,I2⟩:=I.next F ho hr hL h h2 h3 h4
   exact ih _ a' w' m2 st2 hcnt I2
  obtain ⟨hn,hg,hp⟩:=F.ngl j (by omega)
  have hlook:=fun t (ht:t ∈ looks l o) => I.same F ho hr hL ht
  have hgev:∀ x ∈ o.op.operands,gev st' x = gev (sts j) x:=fun x hx => gev_same (I.gl.trans hg.symm) (fun t e => hlook t (by
   subst e
   exact List.mem_append_left _ (List.mem_filterMap.2 ⟨.tmp t,by simpa using hx,rfl⟩)))
  have hgw:gwant st' l.toArray o = gwant (sts j) l.toArray o:=by
   unfold gwant
   cases hgd:o.guard with
   | none => rfl
   | some gw =>
    obtain ⟨g,want⟩:=gw
    simp only
    cases hd:(l.toArray[g]?).bind (·.dst) with
    | none => rfl
    | some d =>
     simp only
     rw [hlook d (List.mem_append_right _ (by
      rw [hgd]
      have:(l[g]?).bind (·.dst) = some d:=by simpa using hd
      simp [this]))]
  obtain ⟨β,rb⟩:=I.rel
  unfold wpOpIn
  simp only [ho']
  have hstep:=F.step j o ho
  have hput:∀ (s:St) (g:G),(s.put o.dst g).σ = s.σ ∧ (s.put o.dst g).c = s.c:=fun s g => by cases o.dst <;> exact ⟨rfl,rfl⟩
  rcases hstep with ⟨_,⟨hw,⟨low,σ,c,hinf,hst,hB,_⟩ | ⟨f,hinf,hst,hR⟩⟩ | ⟨hw,hge,hst,hinf⟩⟩
  ·rw [← hgw] at hw
   rw [if_pos (gwant_spec rb hw)]
   have hb:(infAt inf j).isWr = true:=by rw [hinf]; rfl
   obtain ⟨_,s1,s2⟩:=I.stoW F ho hb hr hL
   have hlike:(sts j).like st':=⟨I.n.trans hn.symm,I.gl.trans hg.symm,s1,s2,I.p.trans hp.symm⟩
   exact hB st' hlike hgev cx a w _ Q ⟨β,rb⟩ fun a' w' r' => next σ c (j + 1) a' w' r' (.inr ⟨hb,rfl⟩) (by rw [hst]; exact (hput { sts j with σ:=σ,c:=c } (gs j)).1.symm) (by rw [hst]; exact (hput { sts j with σ:=σ,c:=c } (gs j)).2.symm)
  ·rw [← hgw] at hw
   rw [if_pos (gwant_spec rb hw)]
   have hb:(infAt inf j).isWr = false:=by rw [hinf]; rfl
   exact hR st' (I.n.trans hn.symm) (I.gl.trans hg.symm) (I.stoR F ho hinf hr hL) hgev cx a w _ Q ⟨β,rb⟩ fun a' w' r' => next st'.σ st'.c m a' w' r' (.inl ⟨hb,rfl⟩) I.σ I.c
  ·rw [← hgw] at hw
   rw [if_neg (by rw [gwant_spec rb hw]; simp)]
   refine ⟨fun f _ => rb.loose.fn f,?_⟩
   have hd:∀ d,o.dst = some d → d < st'.n:=fun d h => by rw [I.n]; exact F.dstn j o d ho h
   have hrel:Rel P cx (st'.put o.dst (gs j)) (a.put o.dst undef) w:=⟨β,by rw [hge]; exact rb.put o.dst hd (.imm _ _ (.lit _))⟩
   have hb:(infAt inf j).isWr = false:=by rw [hinf]; rfl
   exact next st'.σ st'.c m _ w hrel (.inl ⟨hb,rfl⟩) I.σ I.c

theorem tr_region_draw3 {id:Nat} {Q:Exit → St → Prop} (hm:P.follows .mixedOrders = true) (hok:drawOk3 l inf st.n = true) (h:RunR P l.toArray (Q .normal) l inf st):Tr P (.region id l.toArray true) st Q:=fun cx a w R ⟨β,r⟩ k => by
 obtain ⟨sts,gs,h0,hK,hs⟩:=runR_states l inf st h
 have F:=drawOk3_facts hok h0 hs
 refine wpIn_region_any hm ?_
 have hr:RelB P cx st a { w with drawn:=w.drawn + 1 } β:=r.world ⟨rfl,rfl,rfl,Nat.le_refl _,fun _ _ _ => rfl,Nat.le_succ _⟩
 have I:RInv P l inf st sts gs cx (Array.replicate l.toArray.size false) a { w with drawn:=w.drawn + 1 } 0 st:={
  size:=by simp
  closed:=fun j o hj => by have:=getD_lt hj; simp at this; simp [this] at hj
  hm:=Nat.zero_le _
  bar:=fun b hb _ => by simp [hb]
  rel:=⟨β,hr⟩
  n:=rfl
  gl:=rfl
  σ:=by rw [h0]
  c:=by rw [h0]
  p:=rfl
  f1:=fun j t hj => by have:=getD_lt hj; simp at this; simp [this] at hj
  f2:=fun _ _ => rfl }
 exact I.run F (fun a' w' r' => k _ _ a' w' hK r') _ _ _ _ _ _ (by simp)
end draw
end
end Go.Proofs.YtpehhhbmobmedaaGreatDoor
