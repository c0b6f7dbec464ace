/- A machine of values over the model: maps as objects of the walk: made, looked up, written, their entries gone through. -/
import Derived.Test.YtpehhhbmobmedaaGreatDoorGQ
import Derived.MapKept
namespace Go.Proofs.YtpehhhbmobmedaaGreatDoor
set_option linter.unusedVariables false
set_option linter.unusedSimpArgs false
set_option linter.unusedSectionVars false
section
open Go.RowKit
section
variable {P:Program}

/-! ### keys -/
def know (d:TypeDesc) (k:Value):List Value → Nat → Option (Option Nat)
 | [],_ => some none
 | u :: r,n => match Instr.sameNow d k u with
  | some true => some (some n)
  | some false => know d k r (n + 1)
  | none => none
def kask (P:Program) (kt:TypeId) (k:Value):List Value → Nat → Option (Option Nat)
 | [],_ => some none
 | u :: r,n => match spure P (Op.equal kt k u) with
  | some true => some (some n)
  | some false => kask P kt k r (n + 1)
  | none => none
theorem know_none {d:TypeDesc} {k:Value}:∀ {es:List MapEntry} {n:Nat},know d k (es.map (·.key)) n = none → Instr.findNow d k es n = none
 | [],n,h => by cases h
 | e :: r,n,h => by
  simp only [List.map_cons,know] at h
  unfold Instr.findNow
  split at h
  ·cases h
  ·rename_i hs; rw [hs]; exact know_none h
  ·rename_i hs; rw [hs]
theorem know_some {d:TypeDesc} {k:Value}:∀ {es:List MapEntry} {n:Nat} {q:Option Nat},know d k (es.map (·.key)) n = some q →
  ∃ p,Instr.findNow d k es n = some p ∧ ((q = none ∧ p = none) ∨ ∃ i e,q = some (n + i) ∧ es[i]? = some e ∧ p = some (n + i,e.val))
 | [],n,q,h => by simp [know] at h; subst h; exact ⟨none,rfl,.inl ⟨rfl,rfl⟩⟩
 | e :: r,n,q,h => by
  simp only [List.map_cons,know] at h
  unfold Instr.findNow
  split at h
  ·rename_i hs
   cases h
   rw [hs]
   exact ⟨_,rfl,.inr ⟨0,e,rfl,rfl,rfl⟩⟩
  ·rename_i hs
   rw [hs]
   obtain ⟨p,h1,h2⟩:=know_some h
   refine ⟨p,h1,?_⟩
   rcases h2 with h2 | ⟨i,e',h3,h4,h5⟩
   ·exact .inl h2
   ·exact .inr ⟨i + 1,e',by rw [h3]; congr 1; omega,by simpa using h4,by rw [h5]; congr 2; omega⟩
  ·cases h
theorem kask_some {kt:TypeId} {k:Value} {w:World}:∀ {es:List MapEntry} {n:Nat} {q:Option Nat},kask P kt k (es.map (·.key)) n = some q →
  ∃ p,(Instr.findAsking kt k es n).run P w = .ok p w ∧ ((q = none ∧ p = none) ∨ ∃ i e,q = some (n + i) ∧ es[i]? = some e ∧ p = some (n + i,e.val))
 | [],n,q,h => by simp [kask] at h; subst h; exact ⟨none,by simp [Instr.findAsking],.inl ⟨rfl,rfl⟩⟩
 | e :: r,n,q,h => by
  simp only [List.map_cons,kask] at h
  unfold Instr.findAsking
  split at h
  ·rename_i hs
   cases h
   have:=spure_run hs w
   exact ⟨_,by simp [this],.inr ⟨0,e,rfl,rfl,rfl⟩⟩
  ·rename_i hs
   have:=spure_run hs w
   obtain ⟨p,h1,h2⟩:=kask_some (w:=w) h
   refine ⟨p,by simp [this,h1],?_⟩
   rcases h2 with h2 | ⟨i,e',h3,h4,h5⟩
   ·exact .inl h2
   ·exact .inr ⟨i + 1,e',by rw [h3]; congr 1; omega,by simpa using h4,by rw [h5]; congr 2; omega⟩
  ·cases h
def gkey (P:Program) (kt:TypeId) (k:Value) (ks:List Value):Option (Option Nat):=match P.underlying kt with
 | some d => match know d k ks 0 with
  | some r => some r
  | none => kask P kt k ks 0
 | none => none
theorem gkey_run {kt:TypeId} {k:Value} {w:World} {es:List MapEntry} {q:Option Nat} (h:gkey P kt k (es.map (·.key)) = some q) :
  ∃ p,(Instr.findKey kt k es).run P w = .ok p w ∧ ((q = none ∧ p = none) ∨ ∃ i e,q = some i ∧ es[i]? = some e ∧ p = some (i,e.val)):=by
 unfold gkey at h
 split at h
 ·rename_i d hd
  unfold Instr.findKey
  simp only [Sem.run_bind,run_underlying hd,Result.andThen_ok]
  split at h
  ·rename_i r hr
   cases h
   obtain ⟨p,h1,h2⟩:=know_some hr
   rw [h1]
   refine ⟨p,by simp,?_⟩
   simpa using h2
  ·rename_i hr
   rw [know_none hr]
   obtain ⟨p,h1,h2⟩:=kask_some (w:=w) h
   exact ⟨p,h1,by simpa using h2⟩
 ·cases h
def gchk (P:Program) (b:Bool) (kt:TypeId) (k:Value):Bool:=(spure P (Instr.checkKey b 10000 kt k)).isSome
theorem gchk_run {b:Bool} {kt:TypeId} {k:Value} (h:gchk P b kt k = true) (w:World):(Instr.checkKey b 10000 kt k).run P w = .ok () w:=by
 unfold gchk at h
 obtain ⟨u,hu⟩:=Option.isSome_iff_exists.1 h
 exact spure_run hu w
def tmap (P:Program) (t:TypeId):Option (TypeId × TypeId):=match P.underlying t with
 | some (.map k e) => some (k,e)
 | _ => none
theorem tmap_spec {t k e:TypeId} (h:tmap P t = some (k,e)):P.underlying t = some (.map k e):=by
 unfold tmap at h
 split at h
 ·cases h; assumption
 ·cases h

/-! ### objects -/
theorem run_getObj' {w:World} {r:Nat} {o:Obj} (h:w.heap[r]? = some o) (hn:∀ c e f,o ≠ .cells c e f):(getObj r).run P w = .ok o w:=by
 cases o with
 | cells c e f => exact absurd rfl (hn c e f)
 | _ => simp [getObj,Sem.run,h]
theorem run_setObj' {w:World} {r:Nat} {o:Obj} (o':Obj) (h:w.heap[r]? = some o) (hn:∀ c e f,o ≠ .cells c e f):(setObj r o').run P w = .ok () (w.putObj r o'):=by
 cases o with
 | cells c e f => exact absurd rfl (hn c e f)
 | _ => simp [setObj,Sem.run,h,World.putObj]
theorem map_nc {es:Array MapEntry} {c:Nat}:∀ a e f,(Obj.map es c) ≠ .cells a e f:=fun _ _ _ h => by cases h
theorem iter_nc {m:Option Nat} {s:Nat} {q:Array Nat} {c:Nat}:∀ a e f,(Obj.mapIter m s q c) ≠ .cells a e f:=fun _ _ _ h => by cases h
theorem run_newObj' {w:World} {o:Obj}:(newObj o).run P w = .ok w.heap.size (w.alloc o):=rfl
theorem keeps_put {w:World} {l:Nat} (o:Obj):Keeps (fun b => b = l) w (w.putObj l o):=⟨rfl,rfl,rfl,by simp,fun k _ hk => World.putObj_heap_other hk,Nat.le_refl _⟩
def gmap (σ:Sto):G → Option (Nat × TypeId × List (Value × G × Nat) × Nat)
 | .mref i => match sget σ i with
  | some ⟨t,_,some (.map es clock)⟩ => some (i,t,es,clock)
  | _ => none
 | _ => none
theorem gmap_spec {cx:Cx} {st:St} {a:Act} {w:World} {β:Bm} (h:RelB P cx st a w β) {g:G} {v:Value} {i:Nat} {t:TypeId} {es:List (Value × G × Nat)} {clock:Nat} (hv:RV β (Av cx.S0 β st.σ) w g v) (hg:gmap st.σ g = some (i,t,es,clock)) :
  ∃ ob b ents,g = .mref i ∧ sget st.σ i = some ob ∧ ob.t = t ∧ β i = some (some (b,0)) ∧ v = .map (some b) ∧ w.heap[b]? = some (.map ents clock) ∧ ents.toList.map (·.key) = es.map (·.1) ∧ ents.toList.map (·.born) = es.map (·.2.2) ∧ ents.size = es.length ∧
   ∀ (j:Nat) (e:MapEntry) (k:Value) (g:G) (n:Nat),ents[j]? = some e → es[j]? = some (k,g,n) → e.key = k ∧ e.born = n ∧ RV β (Av cx.S0 β st.σ) w g e.val:=by
 unfold gmap at hg
 split at hg
 ·rename_i i'
  split at hg
  ·rename_i t' l es' clock' ho
   cases hg
   obtain ⟨b,C,hb,rfl⟩:=hv.mref_form
   rcases h.ob i _ ho with ⟨_,_,h3⟩ | ⟨b',x,o,h1,h2,h3,h4,h5⟩ | ⟨b',C',cur,h1,_⟩
   ·rcases h3 with h3 | h3 <;> cases h3
   ·cases h1
    rw [h3] at hb
    cases hb
    obtain ⟨ents,rfl,e2,e3⟩:=h5
    have key:∀ (j:Nat) (e:MapEntry) (k:Value) (g:G) (n:Nat),ents[j]? = some e → es[j]? = some (k,g,n) → e.key = k ∧ e.born = n ∧ RV β (Av cx.S0 β st.σ) w g e.val:=fun j e k g n he hj => by
     obtain ⟨e',h6,h7,h8,h9⟩:=e3 j k g n hj
     rw [he] at h6; cases h6
     exact ⟨h7,h8,h9⟩
    refine ⟨_,_,ents,rfl,ho,rfl,h3,rfl,h4,?_,?_,e2,key⟩
    ·apply List.ext_getElem?
     intro j
     rw [List.getElem?_map,List.getElem?_map,Array.getElem?_toList]
     cases hj:es[j]? with
     | none =>
      have:es.length ≤ j:=List.getElem?_eq_none_iff.1 hj
      simp [show ents.size ≤ j by omega]
     | some q =>
      obtain ⟨k,g,n⟩:=q
      obtain ⟨e',h6,h7,_⟩:=e3 j k g n hj
      rw [h6]; simp [h7]
    ·apply List.ext_getElem?
     intro j
     rw [List.getElem?_map,List.getElem?_map,Array.getElem?_toList]
     cases hj:es[j]? with
     | none =>
      have:es.length ≤ j:=List.getElem?_eq_none_iff.1 hj
      simp [show ents.size ≤ j by omega]
     | some q =>
      obtain ⟨k,g,n⟩:=q
      obtain ⟨e',h6,h7,h8,_⟩:=e3 j k g n hj
      rw [h6]; simp [h8]
   ·cases h1
  ·cases hg
 ·cases hg

/-! ### made -/
def gmakeMap (P:Program) (t:TypeId) (r:Option G):Bool:=match r with
 | none => true
 | some (.lit (.int _ _)) => (tmap P t).isSome
 | _ => false
theorem gs_makeMap {o:Oper} {st:St} {t:TypeId} {r:Option Operand} (ho:o.op = .makeMap t r) (hd:∀ d,o.dst = some d → d < st.n) (hg:gmakeMap P t (r.map (gev st)) = true) :
  GS P o st ({ st with σ:=(st.c,some ⟨t,[],some (.map [] 0)⟩) :: st.σ,c:=st.c + 1 }.put o.dst (.mref st.c)):=by
 intro cx a w K R ⟨β,h⟩ hK
 have hrun:(execOp a.eval o).run P w = .ok (.value (.map (some w.heap.size))) (w.alloc (.map #[] 0)):=by
  unfold execOp
  simp only [ho]
  cases r with
  | none => simp only [Option.map_none,Instr.makeMap,Sem.run_bind,run_newObj',Result.andThen_ok,Sem.run_pure]
  | some x =>
   simp only [Option.map_some] at hg
   unfold gmakeMap at hg
   split at hg
   ·rename_i hh; cases hh
   ·rename_i k n hx
    obtain ⟨⟨kt,et⟩,ht⟩:=Option.isSome_iff_exists.1 hg
    have hv:a.eval x = .int k n:=by
     have:=h.ev x
     simp only [Option.some.injEq] at hx
     rw [hx] at this
     exact this.lit_eq
    simp only [Option.map_some,Instr.makeMap,hv,Sem.run_bind,run_underlying (tmap_spec ht),Result.andThen_ok,run_newObj',Sem.run_pure,asInt,asIntOf]
   ·cases hg
 have:=h.allocX (w':=w.alloc (.map #[] 0)) ((Keeps.refl _ _).alloc _) (b:=w.heap.size) (ob:=⟨t,[],some (.map [] 0)⟩) (x:=.map [] 0) (Nat.le_refl _) (heap_alloc_new w _) rfl rfl ⟨#[],rfl,rfl,by simp⟩ (Nat.le_refl st.c)
 refine h.loose.oper (fun c hc => by rw [ho] at hc; cases hc) ?_
 unfold Oper.wp
 rw [hrun]
 exact hK _ _ ⟨_,this.put o.dst hd (.mref _ _ 0 (by simp))⟩

/-! ### looked up -/
def glookup (P:Program) (σ:Sto) (t:TypeId) (ok:Bool) (gm gk:G):Option G:=match tmap P t,gval gk with
 | some (kt,et),some k =>
  match gm with
  | .lit (.map none) => bif gchk P true kt k && (P.underlying kt).isSome then ((P.info? et).bind (·.zero)).map fun z => bif ok then .tup [glit z,.lit (.bool false)] else glit z else none
  | gm => match gmap σ gm with
   | some (i,_,es,_) => bif gchk P es.isEmpty kt k then
     match gkey P kt k (es.map (·.1)) with
     | some none => ((P.info? et).bind (·.zero)).map fun z => bif ok then .tup [glit z,.lit (.bool false)] else glit z
     | some (some j) => (es[j]?).map fun e => bif ok then .tup [e.2.1,.lit (.bool true)] else e.2.1
     | none => none
    else none
   | none => none
 | _,_ => none
theorem run_zeroOf {et:TypeId} {z:Value} {w:World} (h:(P.info? et).bind (·.zero) = some z):(zeroValue et).run P w = .ok z w:=by
 rw [Option.bind_eq_some_iff] at h
 obtain ⟨i,hi,hz⟩:=h
 simp [zeroValue,typeInfo,hi,hz]
theorem rv_ok {β:Bm} {S:Nat → Prop} {w:World} {g:G} {v:Value} {t:Bool} (ok:Bool) (h:RV β S w g v):RV β S w (bif ok then .tup [g,.lit (.bool t)] else g) (if ok then .tuple #[v,.bool t] else v):=by
 cases ok with
 | false => exact h
 | true =>
  refine .tup _ _ rfl fun i g' u hg hu => ?_
  match i with
  | 0 => simp at hg hu; subst hg; subst hu; exact h
  | 1 => simp at hg hu; subst hg; subst hu; exact .imm _ _ (.lit _)
  | n + 2 => simp at hg
theorem glookup_run {cx:Cx} {st:St} {a:Act} {w:World} {β:Bm} (h:RelB P cx st a w β) {t:TypeId} {ok:Bool} {gm gk g:G} {vm vk:Value} (hm:RV β (Av cx.S0 β st.σ) w gm vm) (hk:RV β (Av cx.S0 β st.σ) w gk vk) (hg:glookup P st.σ t ok gm gk = some g) :
  ∃ v,(Instr.lookup t vm vk ok).run P w = .ok v w ∧ RV β (Av cx.S0 β st.σ) w g v:=by
 unfold glookup at hg
 split at hg
 ·rename_i kt et k ht hgk
  have hvk:=hk.val hgk
  subst hvk
  split at hg
  ·have hv:=hm.lit_eq
   subst hv
   cases hc0:(gchk P true kt vk && (P.underlying kt).isSome) with
   | false => rw [hc0] at hg; cases hg
   | true =>
    rw [hc0] at hg
    simp only [Bool.and_eq_true] at hc0
    obtain ⟨hc,hd⟩:=hc0
    simp only [cond_true,Option.map_eq_some_iff] at hg
    obtain ⟨z,hz,rfl⟩:=hg
    have hf:(Instr.findKey kt vk ([]:List MapEntry)).run P w = .ok none w:=by
     obtain ⟨d,hd⟩:=Option.isSome_iff_exists.1 hd
     simp [Instr.findKey,run_underlying hd,Instr.findNow]
    refine ⟨_,?_,rv_ok ok (.imm _ _ (.glit _ _ z))⟩
    have hc':=gchk_run hc w
    simp only [Instr.lookup,Sem.run_bind,run_underlying (tmap_spec ht),Result.andThen_ok,Sem.run_pure,Array.isEmpty_empty,hc',hf,run_zeroOf hz]
  ·split at hg
   ·rename_i i t' es clock hgm
    obtain ⟨ob,b,ents,rfl,ho,_,hb,rfl,hh,hks,_,hsz,hent⟩:=gmap_spec h hm hgm
    have hemp:ents.isEmpty = es.isEmpty:=by
     cases es with
     | nil => simpa [Array.isEmpty] using hsz
     | cons x r => simp [Array.isEmpty,hsz]
    cases hc:gchk P es.isEmpty kt vk with
    | false => rw [hc] at hg; cases hg
    | true =>
     rw [hc] at hg
     simp only [cond_true] at hg
     have hc':=gchk_run hc w
     rw [← hks] at hg
     split at hg
     ·rename_i hkey
      simp only [Option.map_eq_some_iff] at hg
      obtain ⟨z,hz,rfl⟩:=hg
      obtain ⟨p,hp,hq⟩:=gkey_run (w:=w) hkey
      rcases hq with ⟨_,rfl⟩ | ⟨_,_,hq,_⟩
      ·refine ⟨_,?_,rv_ok ok (.imm _ _ (.glit _ _ z))⟩
       simp only [Instr.lookup,Sem.run_bind,run_underlying (tmap_spec ht),Result.andThen_ok,run_getObj' hh map_nc,Sem.run_pure,hemp,hc',hp,run_zeroOf hz]
      ·cases hq
     ·rename_i j hkey
      simp only [Option.map_eq_some_iff] at hg
      obtain ⟨⟨k',g',n'⟩,he,rfl⟩:=hg
      obtain ⟨p,hp,hq⟩:=gkey_run (w:=w) hkey
      rcases hq with ⟨hq,_⟩ | ⟨j',e',hq,he',rfl⟩
      ·cases hq
      ·cases hq
       obtain ⟨_,_,hr⟩:=hent j e' k' g' n' (by rw [← Array.getElem?_toList]; exact he') he
       refine ⟨_,?_,rv_ok ok hr⟩
       simp only [Instr.lookup,Sem.run_bind,run_underlying (tmap_spec ht),Result.andThen_ok,run_getObj' hh map_nc,Sem.run_pure,hemp,hc',hp]
     ·cases hg
   ·cases hg
 ·cases hg
theorem gs_lookup {o:Oper} {st:St} {t:TypeId} {x y:Operand} {ok:Bool} {g:G} (ho:o.op = .lookup t x y ok) (hd:∀ d,o.dst = some d → d < st.n) (hg:glookup P st.σ t ok (gev st x) (gev st y) = some g):GS P o st (st.put o.dst g):=by
 intro cx a w K R ⟨β,h⟩ hK
 obtain ⟨v,hv,hr⟩:=glookup_run h (h.ev x) (h.ev y) hg
 refine h.loose.oper (fun c hc => by rw [ho] at hc; cases hc) ?_
 have hrun:(execOp a.eval o).run P w = .ok (.value v) w:=by
  unfold execOp
  simp only [ho,Sem.run_bind,hv,Result.andThen_ok,Sem.run_pure]
 unfold Oper.wp
 rw [hrun]
 exact hK _ _ ⟨β,h.put o.dst hd hr⟩

/-! ### written -/
theorem XO.map_push {β:Bm} {S:Nat → Prop} {w:World} {es:List (Value × G × Nat)} {ents:Array MapEntry} {clock clock':Nat} (hsz:ents.size = es.length) (h:∀ (j:Nat) (e:MapEntry) (k:Value) (g:G) (n:Nat),ents[j]? = some e → es[j]? = some (k,g,n) → e.key = k ∧ e.born = n ∧ RV β S w g e.val) {k:Value} {g:G} {v:Value} (hv:RV β S w g v) :
  XO β S w (.map (es ++ [(k,g,clock)]) clock') (.map (ents.push { key:=k,val:=v,born:=clock }) clock'):=by
 refine ⟨_,rfl,by simp [hsz],fun j k' g' n hj => ?_⟩
 rcases Nat.lt_or_ge j es.length with hlt | hge
 ·rw [List.getElem?_append_left hlt] at hj
  have he:ents[j]? = some (ents[j]'(by omega)):=by simp [show j < ents.size by omega]
  refine ⟨_,by rw [Array.getElem?_push_lt (by omega)],h j _ k' g' n he hj⟩
 ·rw [List.getElem?_append_right hge] at hj
  have h0:j = es.length:=by
   have:=(List.getElem?_eq_some_iff.1 hj).1
   simp at this; omega
  subst h0
  simp at hj
  obtain ⟨rfl,rfl,rfl⟩:=hj
  exact ⟨{ key:=k,val:=v,born:=clock },by rw [← hsz]; simp,rfl,rfl,hv⟩
theorem XO.map_set {β:Bm} {S:Nat → Prop} {w:World} {es:List (Value × G × Nat)} {ents:Array MapEntry} {clock:Nat} (hsz:ents.size = es.length) (h:∀ (j:Nat) (e:MapEntry) (k:Value) (g:G) (n:Nat),ents[j]? = some e → es[j]? = some (k,g,n) → e.key = k ∧ e.born = n ∧ RV β S w g e.val) {i n:Nat} {k:Value} {g:G} {f:MapEntry → MapEntry} (hf:∀ e,ents[i]? = some e → (f e).key = k ∧ (f e).born = n ∧ RV β S w g (f e).val) :
  XO β S w (.map (es.set i (k,g,n)) clock) (.map (ents.modify i f) clock):=by
 refine ⟨_,rfl,by simp [hsz],fun j k' g' n' hj => ?_⟩
 have hlt:j < es.length:=by have:=(List.getElem?_eq_some_iff.1 hj).1; simpa using this
 have he:ents[j]? = some (ents[j]'(by omega)):=by simp [show j < ents.size by omega]
 rw [List.getElem?_set] at hj
 rw [Array.getElem?_modify]
 split at hj
 ·subst_vars
  rw [if_pos hlt] at hj
  cases hj
  rw [if_pos rfl,he]
  exact ⟨_,rfl,hf _ he⟩
 ·rename_i hne
  rw [if_neg hne]
  exact ⟨_,he,h j _ k' g' n' he hj⟩
def gmapPut (P:Program) (σ:Sto) (t:TypeId) (gm gk g:G):Option (Nat × Ob):=match tmap P t,gval gk,gmap σ gm with
 | some (kt,_),some k,some (i,ty,es,clock) => bif gchk P false kt k then
   match gkey P kt k (es.map (·.1)) with
   | some none => some (i,⟨ty,[],some (.map (es ++ [(k,g,clock)]) (clock + 1))⟩)
   | some (some j) => match es[j]? with
    | some (k',_,n) => bif Instr.sameBits 10000 k' k then some (i,⟨ty,[],some (.map (es.set j (k,g,n)) clock)⟩) else none
    | none => none
   | none => none
  else none
 | _,_,_ => none
theorem run_stays {old new:Value} (h:Instr.sameBits 10000 old new = true) (w:World):(Instr.keyThatStays old new).run P w = .ok new w:=by
 unfold Instr.keyThatStays
 rw [if_pos h]; rfl
theorem gmapPut_run {cx:Cx} {st:St} {a:Act} {w:World} {β:Bm} (h:RelB P cx st a w β) {t:TypeId} {gm gk g:G} {vm vk v:Value} {i:Nat} {ob:Ob} (hm:RV β (Av cx.S0 β st.σ) w gm vm) (hk:RV β (Av cx.S0 β st.σ) w gk vk) (hv:RV β (Av cx.S0 β st.σ) w g v) (hg:gmapPut P st.σ t gm gk g = some (i,ob)) :
  ∃ w',(Instr.mapUpdate t vm vk v).run P w = .ok () w' ∧ RelB P cx { st with σ:=(i,some ob) :: st.σ } a w' β:=by
 unfold gmapPut at hg
 split at hg
 ·rename_i kt et k i' ty es clock ht hgk hgm
  have hvk:=hk.val hgk
  subst hvk
  obtain ⟨ob',b,ents,rfl,ho,rfl,hb,rfl,hh,hks,_,hsz,hent⟩:=gmap_spec h hm hgm
  cases hc:gchk P false kt vk with
  | false => rw [hc] at hg; cases hg
  | true =>
   rw [hc] at hg
   simp only [cond_true] at hg
   have hc':=gchk_run hc w
   rw [← hks] at hg
   split at hg
   ·rename_i hkey
    cases hg
    obtain ⟨p,hp,hq⟩:=gkey_run (w:=w) hkey
    rcases hq with ⟨_,rfl⟩ | ⟨_,_,hq,_⟩
    ·refine ⟨_,?_,h.writeX ho hb (keeps_put _) (World.putObj_heap_same (Array.getElem?_eq_some_iff.1 hh).1) (XO.map_push hsz hent hv)⟩
     simp only [Instr.mapUpdate,Sem.run_bind,run_underlying (tmap_spec ht),Result.andThen_ok,run_getObj' hh map_nc,hc',hp,run_setObj' _ hh map_nc]
    ·cases hq
   ·rename_i j hkey
    split at hg
    ·rename_i k' g' n he
     cases hs:Instr.sameBits 10000 k' vk with
     | false => rw [hs] at hg; cases hg
     | true =>
      rw [hs] at hg
      cases hg
      obtain ⟨p,hp,hq⟩:=gkey_run (w:=w) hkey
      rcases hq with ⟨hq,_⟩ | ⟨j',e',hq,he',rfl⟩
      ·cases hq
      ·cases hq
       rw [Array.getElem?_toList] at he'
       obtain ⟨rfl,rfl,_⟩:=hent j e' k' g' n he' he
       refine ⟨_,?_,h.writeX ho hb (keeps_put _) (World.putObj_heap_same (Array.getElem?_eq_some_iff.1 hh).1) (XO.map_set hsz hent (i:=j) (n:=e'.born) (k:=vk) (g:=g) (f:=fun e => { e with key:=vk,val:=v }) fun e hx => ?_)⟩
       ·simp only [Instr.mapUpdate,Sem.run_bind,run_underlying (tmap_spec ht),Result.andThen_ok,run_getObj' hh map_nc,hc',hp,he',Option.map_some,Option.getD_some,run_stays hs,run_setObj' _ hh map_nc]
       ·rw [he'] at hx; cases hx
        exact ⟨rfl,rfl,hv⟩
    ·cases hg
   ·cases hg
 ·cases hg
theorem gs_mapUpdate {o:Oper} {st:St} {t:TypeId} {x y z:Operand} {i:Nat} {ob:Ob} (ho:o.op = .mapUpdate t x y z ∨ o.op = .insert t x y z) (hd:∀ d,o.dst = some d → d < st.n) (hg:gmapPut P st.σ t (gev st x) (gev st y) (gev st z) = some (i,ob)):GS P o st ({ st with σ:=(i,some ob) :: st.σ }.put o.dst (.lit undef)):=by
 intro cx a w K R ⟨β,h⟩ hK
 obtain ⟨w',hv,hr⟩:=gmapPut_run h (h.ev x) (h.ev y) (h.ev z) hg
 refine h.loose.oper (fun c hc => by rcases ho with ho | ho <;> rw [ho] at hc <;> cases hc) ?_
 have hrun:(execOp a.eval o).run P w = .ok .skip w':=by
  unfold execOp
  rcases ho with ho | ho <;> simp only [ho,Sem.run_bind,hv,Result.andThen_ok,Sem.run_pure]
 unfold Oper.wp
 rw [hrun]
 exact hK _ _ ⟨β,hr.put o.dst hd (.imm _ _ (.lit _))⟩

/-! ### how many -/
def gmlen (P:Program) (σ:Sto) (t:TypeId) (g:G):Option G:=match tmap P t with
 | some _ => match g with
  | .lit (.map none) => some (.lit (.int .i64 0))
  | g => match gmap σ g with
   | some (_,_,es,_) => some (.lit (.int .i64 es.length))
   | none => none
 | none => none
theorem gs_mlen {o:Oper} {st:St} {t:TypeId} {x:Operand} {g:G} (ho:o.op = .call { callee:=.builtin .len,args:=#[x],argTypes:=#[t] }) (hd:∀ d,o.dst = some d → d < st.n) (hg:gmlen P st.σ t (gev st x) = some g):GS P o st (st.put o.dst g):=by
 intro cx a w K R ⟨β,h⟩ hK
 refine h.loose.oper (fun c hc => by rw [ho] at hc; cases hc) ?_
 have hrun:∃ v,(execOp a.eval o).run P w = .ok (.value v) w ∧ RV β (Av cx.S0 β st.σ) w g v:=by
  unfold gmlen at hg
  split at hg
  ·rename_i q ht
   obtain ⟨kt,et⟩:=q
   split at hg
   ·rename_i hx
    cases hg
    have hv:a.eval x = .map none:=by have:=h.ev x; rw [hx] at this; exact this.lit_eq
    refine ⟨.int .i64 0,?_,.imm _ _ (.lit _)⟩
    unfold execOp
    simp [ho,resolve,invoke,builtin,Builtin.len_,hv,goInt,run_underlying (tmap_spec ht)]
   ·split at hg
    ·rename_i i ty es clock hgm
     cases hg
     obtain ⟨ob,b,ents,hx,hob,rfl,hb,hv,hh,hks,_,hsz,hent⟩:=gmap_spec h (h.ev x) hgm
     refine ⟨.int .i64 es.length,?_,.imm _ _ (.lit _)⟩
     unfold execOp
     simp [ho,resolve,invoke,builtin,Builtin.len_,hv,goInt,run_getObj' hh map_nc,hsz,run_underlying (tmap_spec ht)]
    ·cases hg
  ·cases hg
 obtain ⟨v,hrun,hr⟩:=hrun
 unfold Oper.wp
 rw [hrun]
 exact hK _ _ ⟨β,h.put o.dst hd hr⟩

/-! ### taken away -/
theorem XO.map_erase {β:Bm} {S:Nat → Prop} {w:World} {es:List (Value × G × Nat)} {ents:Array MapEntry} {clock:Nat} (hsz:ents.size = es.length) (h:∀ (j:Nat) (e:MapEntry) (k:Value) (g:G) (n:Nat),ents[j]? = some e → es[j]? = some (k,g,n) → e.key = k ∧ e.born = n ∧ RV β S w g e.val) (i:Nat) :
  XO β S w (.map (es.eraseIdx i) clock) (.map (ents.eraseIdxIfInBounds i) clock):=by
 have ht:(ents.eraseIdxIfInBounds i).toList = ents.toList.eraseIdx i:=by
  unfold Array.eraseIdxIfInBounds
  split
  ·simp
  ·rename_i hn
   rw [List.eraseIdx_of_length_le (by simpa using hn)]
 refine ⟨_,rfl,?_,fun j k' g' n hj => ?_⟩
 ·rw [← Array.length_toList,ht,List.length_eraseIdx,List.length_eraseIdx,Array.length_toList,hsz]
 ·rw [← Array.getElem?_toList,ht]
  rw [List.getElem?_eraseIdx] at hj ⊢
  split at hj
  ·rename_i hlt
   have hl:=(List.getElem?_eq_some_iff.1 hj).1
   have he:ents[j]? = some (ents[j]'(by omega)):=by simp [show j < ents.size by omega]
   rw [if_pos hlt,Array.getElem?_toList]
   exact ⟨_,he,h j _ k' g' n he hj⟩
  ·rename_i hlt
   have hl:=(List.getElem?_eq_some_iff.1 hj).1
   have he:ents[j + 1]? = some (ents[j + 1]'(by omega)):=by simp [show j + 1 < ents.size by omega]
   rw [if_neg hlt,Array.getElem?_toList]
   exact ⟨_,he,h (j + 1) _ k' g' n he hj⟩
def gmapDel (P:Program) (σ:Sto) (t:TypeId) (gm gk:G):Option (Nat × Ob):=match tmap P t,gval gk,gmap σ gm with
 | some (kt,_),some k,some (i,ty,es,clock) => bif gchk P es.isEmpty kt k then
   match gkey P kt k (es.map (·.1)) with
   | some none => some (i,⟨ty,[],some (.map es clock)⟩)
   | some (some j) => some (i,⟨ty,[],some (.map (es.eraseIdx j) clock)⟩)
   | none => none
  else none
 | _,_,_ => none
theorem gs_mapDel {o:Oper} {st:St} {t t':TypeId} {x y:Operand} {i:Nat} {ob:Ob} (ho:o.op = .call { callee:=.builtin .delete,args:=#[x,y],argTypes:=#[t,t'] }) (hd:∀ d,o.dst = some d → d < st.n) (hg:gmapDel P st.σ t (gev st x) (gev st y) = some (i,ob)):GS P o st ({ st with σ:=(i,some ob) :: st.σ }.put o.dst (.tup [])):=by
 intro cx a w K R ⟨β,h⟩ hK
 refine h.loose.oper (fun c hc => by rw [ho] at hc; cases hc) ?_
 have hrun:∃ w',(execOp a.eval o).run P w = .ok (.value (.tuple #[])) w' ∧ RelB P cx { st with σ:=(i,some ob) :: st.σ } a w' β:=by
  unfold gmapDel at hg
  split at hg
  ·rename_i kt et k i' ty es clock ht hgk hgm
   have hvk:=(h.ev y).val hgk
   subst hvk
   obtain ⟨ob',b,ents,hx,hob,rfl,hb,hv,hh,hks,_,hsz,hent⟩:=gmap_spec h (h.ev x) hgm
   have hemp:ents.isEmpty = es.isEmpty:=by
    cases es with
    | nil => simpa [Array.isEmpty] using hsz
    | cons x r => simp [Array.isEmpty,hsz]
   cases hc:gchk P es.isEmpty kt (a.eval y) with
   | false => rw [hc] at hg; cases hg
   | true =>
    rw [hc] at hg
    simp only [cond_true] at hg
    have hc':=gchk_run hc w
    rw [← hks] at hg
    split at hg
    ·rename_i hkey
     cases hg
     obtain ⟨p,hp,hq⟩:=gkey_run (w:=w) hkey
     rcases hq with ⟨_,rfl⟩ | ⟨_,_,hq,_⟩
     ·refine ⟨_,?_,h.writeX hob hb (keeps_put _) (World.putObj_heap_same (Array.getElem?_eq_some_iff.1 hh).1) (o0:=.map ents clock) ⟨ents,rfl,hsz,fun j k' g' n hj => ?_⟩⟩
      ·unfold execOp
       simp only [ho,resolve,invoke,builtin,Sem.run_bind,Sem.run_pure,Result.andThen_ok,List.map_toArray,List.map_cons,List.map_nil,Builtin.delete_,hv]
       simp only [List.getElem?_toArray,List.getElem?_cons_zero,List.getElem?_cons_succ,Sem.run_bind,run_underlying (tmap_spec ht),Result.andThen_ok,run_getObj' hh map_nc,hemp,hc',hp,run_setObj' _ hh map_nc,Sem.run_pure]
      ·have hl:=(List.getElem?_eq_some_iff.1 hj).1
       have he:ents[j]? = some (ents[j]'(by omega)):=by simp [show j < ents.size by omega]
       exact ⟨_,he,hent j _ k' g' n he hj⟩
     ·cases hq
    ·rename_i j hkey
     cases hg
     obtain ⟨p,hp,hq⟩:=gkey_run (w:=w) hkey
     rcases hq with ⟨hq,_⟩ | ⟨j',e',hq,he',rfl⟩
     ·cases hq
     ·cases hq
      refine ⟨_,?_,h.writeX hob hb (keeps_put _) (World.putObj_heap_same (Array.getElem?_eq_some_iff.1 hh).1) (XO.map_erase hsz hent j)⟩
      unfold execOp
      simp only [ho,resolve,invoke,builtin,Sem.run_bind,Sem.run_pure,Result.andThen_ok,List.map_toArray,List.map_cons,List.map_nil,Builtin.delete_,hv]
      simp only [List.getElem?_toArray,List.getElem?_cons_zero,List.getElem?_cons_succ,Sem.run_bind,run_underlying (tmap_spec ht),Result.andThen_ok,run_getObj' hh map_nc,hemp,hc',hp,run_setObj' _ hh map_nc,Sem.run_pure]
    ·cases hg
  ·cases hg
 obtain ⟨w',hrun,hr⟩:=hrun
 unfold Oper.wp
 rw [hrun]
 exact hK _ _ ⟨β,hr.put o.dst hd (.tup _ _ rfl (by simp))⟩

/-! ### 'm[k] op= x' -/
def gmapEntry (P:Program) (σ:Sto) (t:TypeId) (gm gk:G):Option (Nat × Ob × G):=match tmap P t,gval gk,gmap σ gm with
 | some (kt,et),some k,some (i,ty,es,clock) => bif gchk P false kt k then
   match gkey P kt k (es.map (·.1)) with
   | some none => ((P.info? et).bind (·.zero)).map fun z => (i,⟨ty,[],some (.map (es ++ [(k,glit z,clock)]) (clock + 1))⟩,.tup [glit z,.lit (.int .i64 clock)])
   | some (some j) => match es[j]? with
    | some (k',g,n) => bif Instr.sameBits 10000 k' k then some (i,⟨ty,[],some (.map (es.set j (k,g,n)) clock)⟩,.tup [g,.lit (.int .i64 n)]) else none
    | none => none
   | none => none
  else none
 | _,_,_ => none
theorem rv_two {β:Bm} {S:Nat → Prop} {w:World} {g g':G} {v v':Value} (h:RV β S w g v) (h':RV β S w g' v'):RV β S w (.tup [g,g']) (.tuple #[v,v']):=by
 refine .tup _ _ rfl fun i x u hg hu => ?_
 match i with
 | 0 => simp at hg hu; subst hg; subst hu; exact h
 | 1 => simp at hg hu; subst hg; subst hu; exact h'
 | n + 2 => simp at hg
theorem gs_mapEntry {o:Oper} {st:St} {t:TypeId} {x y:Operand} {i:Nat} {ob:Ob} {g:G} (ho:o.op = .mapEntry t x y) (hd:∀ d,o.dst = some d → d < st.n) (hg:gmapEntry P st.σ t (gev st x) (gev st y) = some (i,ob,g)):GS P o st ({ st with σ:=(i,some ob) :: st.σ }.put o.dst g):=by
 intro cx a w K R ⟨β,h⟩ hK
 refine h.loose.oper (fun c hc => by rw [ho] at hc; cases hc) ?_
 have hrun:∃ v w',(execOp a.eval o).run P w = .ok (.value v) w' ∧ RV β (Av cx.S0 β st.σ) w g v ∧ (∃ o',sget st.σ i = some o') ∧ Keeps (fun b => ∃ C,β i = some (some (b,C))) w w' ∧ RelB P cx { st with σ:=(i,some ob) :: st.σ } a w' β:=by
  unfold gmapEntry at hg
  split at hg
  ·rename_i kt et k i' ty es clock ht hgk hgm
   have hvk:=(h.ev y).val hgk
   subst hvk
   obtain ⟨ob',b,ents,hx,hob,rfl,hb,hv,hh,hks,_,hsz,hent⟩:=gmap_spec h (h.ev x) hgm
   cases hc:gchk P false kt (a.eval y) with
   | false => rw [hc] at hg; cases hg
   | true =>
    rw [hc] at hg
    simp only [cond_true] at hg
    have hc':=gchk_run hc w
    rw [← hks] at hg
    split at hg
    ·rename_i hkey
     simp only [Option.map_eq_some_iff] at hg
     obtain ⟨z,hz,hg⟩:=hg
     cases hg
     obtain ⟨p,hp,hq⟩:=gkey_run (w:=w) hkey
     rcases hq with ⟨_,rfl⟩ | ⟨_,_,hq,_⟩
     ·refine ⟨_,_,?_,rv_two (.imm _ _ (.glit _ _ z)) (.imm _ _ (.lit (.int .i64 clock))),⟨_,hob⟩,(keeps_put _).mono (fun k _ e => ⟨0,by subst e; exact hb⟩),h.writeX hob hb (keeps_put _) (World.putObj_heap_same (Array.getElem?_eq_some_iff.1 hh).1) (XO.map_push hsz hent (.imm _ _ (.glit _ _ z)))⟩
      unfold execOp
      simp only [ho,hv,Instr.mapEntry,Sem.run_bind,run_underlying (tmap_spec ht),Result.andThen_ok,run_getObj' hh map_nc,hc',hp,run_zeroOf hz,run_setObj' _ hh map_nc,Sem.run_pure,goInt]
     ·cases hq
    ·rename_i j hkey
     split at hg
     ·rename_i k' g' n he
      cases hs:Instr.sameBits 10000 k' (a.eval y) with
      | false => rw [hs] at hg; cases hg
      | true =>
       rw [hs] at hg
       cases hg
       obtain ⟨p,hp,hq⟩:=gkey_run (w:=w) hkey
       rcases hq with ⟨hq,_⟩ | ⟨j',e',hq,he',rfl⟩
       ·cases hq
       ·cases hq
        rw [Array.getElem?_toList] at he'
        obtain ⟨rfl,rfl,hr⟩:=hent j e' k' g' n he' he
        refine ⟨_,_,?_,rv_two hr (.imm _ _ (.lit (.int .i64 e'.born))),⟨_,hob⟩,(keeps_put _).mono (fun k _ e => ⟨0,by subst e; exact hb⟩),h.writeX hob hb (keeps_put _) (World.putObj_heap_same (Array.getElem?_eq_some_iff.1 hh).1) (XO.map_set hsz hent (i:=j) (n:=e'.born) (k:=a.eval y) (g:=g') (f:=fun e => { e with key:=a.eval y }) fun e hx => ?_)⟩
        ·unfold execOp
         simp only [ho,hv,Instr.mapEntry,Sem.run_bind,run_underlying (tmap_spec ht),Result.andThen_ok,run_getObj' hh map_nc,hc',hp,he',Option.map_some,Option.getD_some,run_stays hs,run_setObj' _ hh map_nc,Sem.run_pure,goInt]
        ·rw [he'] at hx; cases hx
         exact ⟨rfl,rfl,hr⟩
     ·cases hg
    ·cases hg
  ·cases hg
 obtain ⟨v,w',hrun,hr,⟨ob',hob⟩,hk,hrel⟩:=hrun
 have hk':Keeps (Av cx.S0 β st.σ) w w':=hk.mono fun b _ ⟨C,h1⟩ => .inr ⟨i,ob',C,hob,h1⟩
 unfold Oper.wp
 rw [hrun]
 refine hK _ _ ⟨β,hrel.put o.dst hd (hr.step (fun _ _ x => x) (fun b _ hb => ?_) hk')⟩
 rcases hb with hb | ⟨j,o',C,h1,h2⟩
 ·exact .inl hb
 ·have h1':sget ((i,some ob) :: st.σ) j = some o':=h1
  rw [sget_cons] at h1'
  split at h1'
  ·subst_vars
   exact .inr ⟨_,ob',C,hob,h2⟩
  ·exact .inr ⟨j,o',C,h1',h2⟩
end
end
section
open Go.RowKit
section
variable {P:Program}

def GSn (P:Program) (o:Oper) (st:St) (S:St → Prop):Prop:=∀ cx a w K R,Rel P cx st a w → (∀ st',S st' → ∀ a' w',Rel P cx st' a' w' → K a' w') → o.wpIn cx.F cx.nn P a w K R
theorem GSn.gs {o:Oper} {st st':St} {S:St → Prop} (h:GSn P o st S) (hS:∀ s,S s → s = st'):GS P o st st':=fun cx a w K R r k => h cx a w K R r fun s hs a' w' r' => k a' w' (hS s hs ▸ r')
theorem GS.gsn {o:Oper} {st st':St} (h:GS P o st st'):GSn P o st (fun s => s = st'):=fun cx a w K R r k => h cx a w K R r fun a' w' r' => k st' rfl a' w' r'

/-! ### an entry written by its stamp -/
def gentryStore (σ:Sto) (gm gs g:G):Option (Nat × Ob):=match gmap σ gm,gs with
 | some (i,ty,es,clock),.lit (.int _ b) => match es.findIdx? (fun e => (e.2.2:Int) == b) with
  | some j => match es[j]? with
   | some (k,_,n) => some (i,⟨ty,[],some (.map (es.set j (k,g,n)) clock)⟩)
   | none => none
  | none => none
 | _,_ => none
theorem findIdx_map {es:List (Value × G × Nat)} {ents:List MapEntry} (h:ents.map (·.born) = es.map (·.2.2)) (b:Int):ents.findIdx? (fun e => (e.born:Int) == b) = es.findIdx? (fun e => (e.2.2:Int) == b):=by
 have h1:(ents.map (·.born)).findIdx? (fun (n:Nat) => (n:Int) == b) = ents.findIdx? (fun e => (e.born:Int) == b):=by rw [List.findIdx?_map]; rfl
 have h2:(es.map (·.2.2)).findIdx? (fun (n:Nat) => (n:Int) == b) = es.findIdx? (fun e => (e.2.2:Int) == b):=by rw [List.findIdx?_map]; rfl
 rw [← h1,h,h2]
theorem gs_entryStore {o:Oper} {st:St} {t:TypeId} {x y z:Operand} {i:Nat} {ob:Ob} (ho:o.op = .entryStore t x y z) (hd:∀ d,o.dst = some d → d < st.n) (hg:gentryStore st.σ (gev st x) (gev st y) (gev st z) = some (i,ob)):GS P o st ({ st with σ:=(i,some ob) :: st.σ }.put o.dst (.lit undef)):=by
 intro cx a w K R ⟨β,h⟩ hK
 refine h.loose.oper (fun c hc => by rw [ho] at hc; cases hc) ?_
 have hrun:∃ w',(execOp a.eval o).run P w = .ok .skip w' ∧ RelB P cx { st with σ:=(i,some ob) :: st.σ } a w' β:=by
  unfold gentryStore at hg
  split at hg
  ·rename_i i' ty es clock kk b hgm hy
   obtain ⟨ob',bm,ents,hx,hob,rfl,hb,hv,hh,hks,hbs,hsz,hent⟩:=gmap_spec h (h.ev x) hgm
   have vy:a.eval y = .int kk b:=by have:=h.ev y; rw [hy] at this; exact this.lit_eq
   split at hg
   ·rename_i j hj
    split at hg
    ·rename_i k g0 n he
     cases hg
     refine ⟨_,?_,h.writeX hob hb (keeps_put _) (World.putObj_heap_same (Array.getElem?_eq_some_iff.1 hh).1) (XO.map_set hsz hent (i:=j) (n:=n) (k:=k) (g:=gev st z) (f:=fun e => { e with val:=a.eval z }) fun e hx => ?_)⟩
     ·unfold execOp
      rw [← findIdx_map hbs] at hj
      have hj':ents.findIdx? (fun e => (e.born:Int) == b) = some j:=by rw [← hj]; exact List.findIdx?_toArray _ ents.toList
      simp only [ho,hv,vy,Instr.entryStore,Sem.run_bind,Result.andThen_ok,run_getObj' hh map_nc,asInt,asIntOf,Sem.run_pure,hj',run_setObj' _ hh map_nc]
     ·obtain ⟨h1,h2,_⟩:=hent j e k g0 n hx he
      exact ⟨h1,h2,h.ev z⟩
    ·cases hg
   ·cases hg
  ·cases hg
 obtain ⟨w',hrun,hr⟩:=hrun
 unfold Oper.wp
 rw [hrun]
 exact hK _ _ ⟨β,hr.put o.dst hd (.imm _ _ (.lit _))⟩

/-! ### a walk begins -/
def grange (P:Program) (σ:Sto) (t:TypeId) (gm:G):Option Xob:=match tmap P t with
 | some _ => match gm with
  | .lit (.map none) => some (.iter none 0 [] 0)
  | gm => match gmap σ gm with
   | some (i,_,_,clock) => some (.iter (some i) clock [] clock)
   | none => none
 | none => none
theorem gs_range {o:Oper} {st:St} {t:TypeId} {x:Operand} {ob:Xob} (ho:o.op = .range t x) (hd:∀ d,o.dst = some d → d < st.n) (hg:grange P st.σ t (gev st x) = some ob) :
  GS P o st ({ st with σ:=(st.c,some ⟨t,[],some ob⟩) :: st.σ,c:=st.c + 1 }.put o.dst (.ref st.c 0)):=by
 intro cx a w K R ⟨β,h⟩ hK
 refine h.loose.oper (fun c hc => by rw [ho] at hc; cases hc) ?_
 have hrun:∃ o0,(execOp a.eval o).run P w = .ok (.value (.pointer (some ⟨w.heap.size,0,none⟩))) (w.alloc o0) ∧ XO β (Av cx.S0 β st.σ) w ob o0:=by
  unfold grange at hg
  split at hg
  ·rename_i q ht
   obtain ⟨kt,et⟩:=q
   split at hg
   ·rename_i hx
    cases hg
    have hv:a.eval x = .map none:=by have:=h.ev x; rw [hx] at this; exact this.lit_eq
    refine ⟨_,?_,⟨none,rfl,.inl ⟨rfl,rfl⟩⟩⟩
    unfold execOp
    simp only [ho,hv,Sem.run_bind,run_range_nilMap w t kt et (tmap_spec ht),Result.andThen_ok,Sem.run_pure]
   ·split at hg
    ·rename_i i ty es clock hgm
     cases hg
     obtain ⟨ob',bm,ents,hx,hob,rfl,hb,hv,hh,hks,hbs,hsz,hent⟩:=gmap_spec h (h.ev x) hgm
     refine ⟨_,?_,⟨some bm,rfl,.inr ⟨i,bm,0,rfl,rfl,hb⟩⟩⟩
     unfold execOp
     simp only [ho,hv,Sem.run_bind,run_range_map w t kt et bm ents clock (tmap_spec ht) hh,Result.andThen_ok,Sem.run_pure]
    ·cases hg
  ·cases hg
 obtain ⟨o0,hrun,hxo⟩:=hrun
 have:=h.allocX (w':=w.alloc o0) ((Keeps.refl _ _).alloc _) (b:=w.heap.size) (ob:=⟨t,[],some ob⟩) (x:=ob) (Nat.le_refl _) (heap_alloc_new w _) rfl rfl hxo (Nat.le_refl st.c)
 unfold Oper.wp
 rw [hrun]
 exact hK _ _ ⟨_,this.put o.dst hd (.ref _ 0 _ 0 (by simp))⟩

/-! ### a walk's step -/
inductive F2 {α β:Type} (R:α → β → Prop):List α → List β → Prop
 | nil:F2 R [] []
 | cons {a b l m} (h:R a b) (t:F2 R l m):F2 R (a :: l) (b :: m)
theorem F2.of_get {α β:Type} {R:α → β → Prop}:∀ {l:List α} {m:List β},l.length = m.length → (∀ (i:Nat) a b,l[i]? = some a → m[i]? = some b → R a b) → F2 R l m
 | [],[],_,_ => .nil
 | a :: l,b :: m,hl,h => .cons (h 0 a b rfl rfl) (F2.of_get (by simpa using hl) fun i x y hx hy => h (i + 1) x y (by simpa using hx) (by simpa using hy))
 | [],b :: m,hl,_ => by simp at hl
 | a :: l,[],hl,_ => by simp at hl
theorem F2.filter {α β:Type} {R:α → β → Prop} {p:α → Bool} {q:β → Bool} (hpq:∀ a b,R a b → p a = q b):∀ {l:List α} {m:List β},F2 R l m → F2 R (l.filter p) (m.filter q)
 | _,_,.nil => .nil
 | a :: l,b :: m,.cons h t => by
  rw [List.filter_cons,List.filter_cons,hpq a b h]
  split
  ·exact .cons h (F2.filter hpq t)
  ·exact F2.filter hpq t
theorem F2.append {α β:Type} {R:α → β → Prop}:∀ {l l':List α} {m m':List β},F2 R l m → F2 R l' m' → F2 R (l ++ l') (m ++ m')
 | _,_,_,_,.nil,h => h
 | _,_,_,_,.cons h t,h' => .cons h (F2.append t h')
theorem F2.map {α β α' β':Type} {R:α → β → Prop} {R':α' → β' → Prop} {f:α → α'} {g:β → β'} (hf:∀ a b,R a b → R' (f a) (g b)):∀ {l:List α} {m:List β},F2 R l m → F2 R' (l.map f) (m.map g)
 | _,_,.nil => .nil
 | _,_,.cons h t => .cons (hf _ _ h) (F2.map hf t)
theorem F2.length {α β:Type} {R:α → β → Prop}:∀ {l:List α} {m:List β},F2 R l m → l.length = m.length
 | _,_,.nil => rfl
 | _,_,.cons _ t => by simp [F2.length t]
theorem F2.get {α β:Type} {R:α → β → Prop}:∀ {l:List α} {m:List β},F2 R l m → ∀ {i:Nat} {a:α},l[i]? = some a → ∃ b,m[i]? = some b ∧ R a b
 | _,_,.nil,i,a,h => by simp at h
 | _,_,.cons h t,0,a,hi => by simp at hi; subst hi; exact ⟨_,rfl,h⟩
 | _,_,.cons h t,i + 1,a,hi => by
  obtain ⟨b,h1,h2⟩:=F2.get t (by simpa using hi)
  exact ⟨b,by simpa using h1,h2⟩
theorem F2.isEmpty {α β:Type} {R:α → β → Prop} {l:List α} {m:List β} (h:F2 R l m):l.isEmpty = m.isEmpty:=by cases h <;> rfl
theorem F2.all {α β:Type} {R:α → β → Prop} {p:α → Bool} {q:β → Bool} (hpq:∀ a b,R a b → p a = q b):∀ {l:List α} {m:List β},F2 R l m → l.all p = m.all q
 | _,_,.nil => rfl
 | _,_,.cons h t => by rw [List.all_cons,List.all_cons,hpq _ _ h,F2.all hpq t]

def gcands (es:List (Value × G × Nat)) (since:Nat) (seen:List Nat):List (Option (Value × G × Nat)) :=
 let left:=es.filter fun e => !seen.contains e.2.2
 let old:=left.filter fun e => decide (e.2.2 < since)
 let new:=left.filter fun e => decide (e.2.2 ≥ since)
 (if old.isEmpty then [none] else []) ++ (old ++ new).map some
def giter (σ:Sto):G → Option (Nat × TypeId × Option Nat × Nat × List Nat × Nat)
 | .ref i 0 => match sget σ i with
  | some ⟨t,_,some (.iter m since seen last)⟩ => some (i,t,m,since,seen,last)
  | _ => none
 | _ => none
def NextTo (st:St) (d:Option Tmp) (i:Nat) (t:TypeId) (m since clock:Nat) (seen:List Nat) (cs:List (Option (Value × G × Nat))) (s:St):Prop :=
 (none ∈ cs ∧ s = st.put d (.tup [.lit (.bool false)])) ∨ ∃ k g n,some (k,g,n) ∈ cs ∧ s = { st with σ:=(i,some ⟨t,[],some (.iter (some m) since (seen ++ [n]) clock)⟩) :: st.σ }.put d (.tup [.lit (.bool true),glit k,g])
theorem iter_spec {cx:Cx} {st:St} {a:Act} {w:World} {β:Bm} (h:RelB P cx st a w β) {g:G} {v:Value} {i:Nat} {t:TypeId} {m:Option Nat} {since last:Nat} {seen:List Nat} (hv:RV β (Av cx.S0 β st.σ) w g v) (hg:giter st.σ g = some (i,t,m,since,seen,last)) :
  ∃ ob b mb,sget st.σ i = some ob ∧ ob.t = t ∧ β i = some (some (b,0)) ∧ v = .pointer (some ⟨b,0,none⟩) ∧ w.heap[b]? = some (.mapIter mb since seen.toArray last) ∧ ((m = none ∧ mb = none) ∨ ∃ j b' C,m = some j ∧ mb = some b' ∧ β j = some (some (b',C))):=by
 unfold giter at hg
 split at hg
 ·rename_i i'
  split at hg
  ·rename_i t' l m' since' seen' last' ho
   cases hg
   obtain ⟨b,C,hb,rfl⟩:=hv.ref_addr
   rcases h.ob i _ ho with ⟨_,_,h3⟩ | ⟨b',x,o,h1,h2,h3,h4,h5⟩ | ⟨b',C',cur,h1,_⟩
   ·rcases h3 with h3 | h3 <;> cases h3
   ·cases h1
    rw [h3] at hb
    cases hb
    obtain ⟨mb,rfl,h6⟩:=h5
    exact ⟨_,_,mb,ho,rfl,h3,rfl,h4,h6⟩
   ·cases h1
  ·cases hg
 ·cases hg
theorem choose_run (n:Nat) (hn:0 < n) (w:World):∃ (j:Nat) (w1:World),j < n ∧ Keeps (fun _ => False) w w1 ∧ w1.heap = w.heap ∧ (choose (Question.mapNext n)).run P w = .ok j w1:=by
 by_cases hf:n ≤ 1
 ·exact ⟨0,w,hn,Keeps.refl _ _,rfl,by simp [choose,Sem.run,Question.forced,hf]⟩
 ·exact ⟨_,w.drew,Nat.mod_lt _ hn,⟨rfl,rfl,rfl,Nat.le_refl _,fun _ _ _ => rfl,Nat.le_succ _⟩,rfl,by
   simp only [choose,Sem.run,Question.forced,decide_eq_true_eq,hf,if_false,Question.cut]
   rfl⟩
def gnextOk (es:List (Value × G × Nat)) (seen:List Nat) (last:Nat):Bool:=!(!seen.isEmpty && !es.isEmpty && es.all fun e => decide (e.2.2 ≥ last))
theorem gs_next {o:Oper} {st:St} {x:Operand} {i j clock since last:Nat} {t ty:TypeId} {seen:List Nat} {es:List (Value × G × Nat)} (ho:o.op = .next x false) (hd:∀ d,o.dst = some d → d < st.n) (hi:giter st.σ (gev st x) = some (i,t,some j,since,seen,last)) (hm:gmap st.σ (.mref j) = some (j,ty,es,clock)) (hok:gnextOk es seen last = true) :
  GSn P o st (NextTo st o.dst i t j since clock seen (gcands es since seen)):=by
 intro cx a w K R ⟨β,h⟩ hK
 refine h.loose.oper (fun c hc => by rw [ho] at hc; cases hc) ?_
 obtain ⟨ob,b,mb,hob,rfl,hb,hv,hh,hmb⟩:=iter_spec h (h.ev x) hi
 obtain ⟨b',rfl,hb'⟩:∃ b',mb = some b' ∧ ∃ C,β j = some (some (b',C)):=by
  rcases hmb with ⟨h1,_⟩ | ⟨j',b',C,h1,h2,h3⟩
  ·cases h1
  ·cases h1; exact ⟨b',h2,C,h3⟩
 obtain ⟨C,hb'⟩:=hb'
 obtain ⟨ob2,bb,ents,_,hob2,rfl,hb2,_,hh2,_,_,hsz,hent⟩:=gmap_spec h (.mref j b' C hb') hm
 obtain rfl:b' = bb:=by rw [hb2] at hb'; cases hb'; rfl
 have hF:F2 (fun (e:MapEntry) (q:Value × G × Nat) => e.key = q.1 ∧ e.born = q.2.2 ∧ RV β (Av cx.S0 β st.σ) w q.2.1 e.val) ents.toList es:=F2.of_get (by simpa using hsz) fun k e q he hq => by
  obtain ⟨k',g,n⟩:=q
  exact hent k e k' g n (by simpa using he) hq
 have hF1:=hF.filter (p:=fun e => !(seen.toArray).contains e.born) (q:=fun e => !seen.contains e.2.2) (fun e q ⟨_,h2,_⟩ => by simp [h2])
 have hF2:=hF1.filter (p:=fun e => decide (e.born < since)) (q:=fun e => decide (e.2.2 < since)) (fun e q ⟨_,h2,_⟩ => by simp [h2])
 have hF3:=hF1.filter (p:=fun e => decide (e.born ≥ since)) (q:=fun e => decide (e.2.2 ≥ since)) (fun e q ⟨_,h2,_⟩ => by simp [h2])
 have htest:(!(seen.toArray).isEmpty && !ents.isEmpty && ents.all (fun x => decide (x.born ≥ last))) = false:=by
  have e1:(seen.toArray).isEmpty = seen.isEmpty:=by simp
  have e2:ents.isEmpty = es.isEmpty:=by rw [← hF.isEmpty]; simp
  have e3:ents.all (fun x => decide (x.born ≥ last)) = es.all (fun e => decide (e.2.2 ≥ last)):=by
   rw [← hF.all (p:=fun x => decide (x.born ≥ last)) (fun e q ⟨_,h2,_⟩ => by simp [h2])]; simp
  rw [e1,e2,e3]
  unfold gnextOk at hok
  simpa only [Bool.not_eq_true'] using hok
 -- the candidates
 obtain ⟨cs,hcs⟩:∃ cs:Array (Option MapEntry),cs = (if ((ents.filter fun e => !(seen.toArray).contains e.born).filter fun x => decide (x.born < since)).isEmpty then #[none] else #[]) ++ (((ents.filter fun e => !(seen.toArray).contains e.born).filter fun x => decide (x.born < since)) ++ ((ents.filter fun e => !(seen.toArray).contains e.born).filter fun x => decide (x.born ≥ since))).map some:=⟨_,rfl⟩
 have hFc:F2 (fun (e:Option MapEntry) (q:Option (Value × G × Nat)) => (e = none ∧ q = none) ∨ ∃ e' q',e = some e' ∧ q = some q' ∧ e'.key = q'.1 ∧ e'.born = q'.2.2 ∧ RV β (Av cx.S0 β st.σ) w q'.2.1 e'.val) cs.toList (gcands es since seen):=by
  rw [hcs]
  unfold gcands
  simp only [Array.toList_append,Array.toList_map,Array.toList_filter]
  have e0:((ents.filter fun e => !(seen.toArray).contains e.born).filter fun x => decide (x.born < since)).isEmpty = ((es.filter fun e => !seen.contains e.2.2).filter fun e => decide (e.2.2 < since)).isEmpty:=by
   rw [← hF2.isEmpty,← Array.toList_filter,← Array.toList_filter,Array.isEmpty_toList]
  rw [e0]
  refine F2.append ?_ ((hF2.append hF3).map fun e q hq => .inr ⟨e,q,rfl,rfl,hq⟩)
  split
  ·exact .cons (.inl ⟨rfl,rfl⟩) .nil
  ·exact .nil
 have hpos:0 < cs.size:=by
  rw [hcs]
  split
  ·simp; omega
  ·rename_i hne
   generalize ((ents.filter fun e => !(seen.toArray).contains e.born).filter fun x => decide (x.born < since)) = A at hne
   have:0 < A.size:=by
    rcases Nat.eq_zero_or_pos A.size with h0 | h0
    ·exact absurd (by simp [Array.isEmpty,h0]) hne
    ·exact h0
   simp only [Array.size_append,Array.size_map,List.size_toArray,List.length_nil]
   omega
 obtain ⟨r,w1,hr,hk1,hw1,hch⟩:=choose_run (P:=P) cs.size hpos w
 have hrr:cs.toList[r]? = some (cs[r]'hr):=by simp
 obtain ⟨q,hq,hRq⟩:=hFc.get hrr
 have hh1:w1.heap[b]? = some (.mapIter (some b') since seen.toArray last):=by rw [hw1]; exact hh
 have hcr:cs[r]? = some (cs[r]'hr):=by simp
 have hsync:∀ {X:Sem Value},X = X:=fun {X} => rfl
 rcases hRq with ⟨h1,rfl⟩ | ⟨e',⟨k',g',n'⟩,h1,rfl,h2,h3,h4⟩
 ·have hrun:(execOp a.eval o).run P w = .ok (.value (.tuple #[.bool false])) w1:=by
   unfold execOp
   simp only [ho,hv,Instr.next,Sem.run_bind,run_getObj' hh iter_nc,Result.andThen_ok,run_getObj' hh2 map_nc,htest,Bool.false_eq_true,if_false,← hcs,hch,hcr,h1,Sem.run_pure]
  unfold Oper.wp
  rw [hrun]
  refine hK _ (.inl ⟨List.mem_of_getElem? hq,rfl⟩) _ _ ⟨β,(h.world hk1).put o.dst hd (.tup _ _ rfl fun i g u hg hu => ?_)⟩
  match i with
  | 0 => simp at hg hu; subst hg; subst hu; exact .imm _ _ (.lit _)
  | n + 1 => simp at hg
 ·have hrun:(execOp a.eval o).run P w = .ok (.value (.tuple #[.bool true,e'.key,e'.val])) (w1.putObj b (.mapIter (some b') since (seen.toArray.push e'.born) clock)):=by
   unfold execOp
   simp only [ho,hv,Instr.next,Sem.run_bind,run_getObj' hh iter_nc,Result.andThen_ok,run_getObj' hh2 map_nc,htest,Bool.false_eq_true,if_false,← hcs,hch,hcr,h1,run_setObj' _ hh1 iter_nc,Sem.run_pure]
  unfold Oper.wp
  rw [hrun]
  have hW:=h.world hk1
  have hX:=hW.writeX (x:=.iter (some j) since (seen ++ [n']) clock) hob hb (keeps_put (.mapIter (some b') since (seen.toArray.push e'.born) clock)) (World.putObj_heap_same (Array.getElem?_eq_some_iff.1 hh1).1) ⟨some b',by rw [h3]; simp,.inr ⟨j,b',C,rfl,rfl,hb'⟩⟩
  have hkk:Keeps (Av cx.S0 β st.σ) w (w1.putObj b (.mapIter (some b') since (seen.toArray.push e'.born) clock)):=(hk1.mono fun _ _ x => x.elim).trans ((keeps_put _).mono fun b0 _ e => by subst e; exact .inr ⟨i,ob,0,hob,hb⟩)
  have hAv:∀ b0,b0 < w.heap.size → Av cx.S0 β ((i,some ⟨ob.t,[],some (.iter (some j) since (seen ++ [n']) clock)⟩) :: st.σ) b0 → Av cx.S0 β st.σ b0:=by
   rintro b0 _ (hx | ⟨k,o',D,h5,h6⟩)
   ·exact .inl hx
   ·rw [sget_cons] at h5
    split at h5
    ·subst_vars; exact .inr ⟨_,ob,D,hob,h6⟩
    ·exact .inr ⟨k,o',D,h5,h6⟩
  refine hK _ (.inr ⟨k',g',n',List.mem_of_getElem? hq,rfl⟩) _ _ ⟨β,hX.put o.dst hd (.tup _ _ rfl fun i g u hg hu => ?_)⟩
  match i with
  | 0 => simp at hg hu; subst hg; subst hu; exact .imm _ _ (.lit _)
  | 1 => simp at hg hu; subst hg; subst hu; rw [h2]; exact .imm _ _ (.glit _ _ _)
  | 2 => simp at hg hu; subst hg; subst hu; exact h4.step (fun _ _ x => x) hAv hkk
  | n + 3 => simp at hg
theorem gs_next0 {o:Oper} {st:St} {x:Operand} {i since last:Nat} {t:TypeId} {seen:List Nat} (ho:o.op = .next x false) (hd:∀ d,o.dst = some d → d < st.n) (hi:giter st.σ (gev st x) = some (i,t,none,since,seen,last)):GS P o st (st.put o.dst (.tup [.lit (.bool false)])):=by
 intro cx a w K R ⟨β,h⟩ hK
 refine h.loose.oper (fun c hc => by rw [ho] at hc; cases hc) ?_
 obtain ⟨ob,b,mb,hob,rfl,hb,hv,hh,hmb⟩:=iter_spec h (h.ev x) hi
 rcases hmb with ⟨_,rfl⟩ | ⟨_,_,_,h1,_⟩
 ·have hrun:(execOp a.eval o).run P w = .ok (.value (.tuple #[.bool false])) w:=by
   unfold execOp
   simp only [ho,hv,Instr.next,Sem.run_bind,run_getObj' hh iter_nc,Result.andThen_ok,Sem.run_pure]
  unfold Oper.wp
  rw [hrun]
  refine hK _ _ ⟨β,h.put o.dst hd (.tup _ _ rfl fun i g u hg hu => ?_)⟩
  match i with
  | 0 => simp at hg hu; subst hg; subst hu; exact .imm _ _ (.lit _)
  | n + 1 => simp at hg
 ·cases h1

def gentry (σ:Sto) (g:G):Option G:=match giter σ g with
 | some (_,_,some j,_,seen,last) => match gmap σ (.mref j),seen.getLast? with
  | some (_,_,es,clock),some n => bif Nat.beq clock last then
    match es.find? (fun e => Nat.beq e.2.2 n) with
    | some (k,g,_) => some (.tup [glit k,g])
    | none => none
   else none
  | _,_ => none
 | _ => none
theorem nat_beq (a b:Nat):(a == b) = Nat.beq a b:=by
 cases h:Nat.beq a b with
 | true => rw [Nat.eq_of_beq_eq_true h]; simp
 | false => exact beq_eq_false_iff_ne.2 fun e => by rw [e,Nat.beq_refl] at h; cases h
theorem find_F2 {α β:Type} {R:α → β → Prop} {p:α → Bool} {q:β → Bool} (hpq:∀ a b,R a b → p a = q b):∀ {l:List α} {m:List β},F2 R l m → ∀ {b},m.find? q = some b → ∃ a,l.find? p = some a ∧ R a b
 | _,_,.nil,b,h => by simp at h
 | _,_,.cons h t,b,hb => by
  rw [List.find?_cons] at hb ⊢
  rw [hpq _ _ h]
  split at hb
  ·cases hb; exact ⟨_,rfl,h⟩
  ·exact find_F2 hpq t hb
theorem gs_entry {o:Oper} {st:St} {x:Operand} {g:G} (ho:o.op = .entry x) (hd:∀ d,o.dst = some d → d < st.n) (hg:gentry st.σ (gev st x) = some g):GS P o st (st.put o.dst g):=by
 intro cx a w K R ⟨β,h⟩ hK
 refine h.loose.oper (fun c hc => by rw [ho] at hc; cases hc) ?_
 have hrun:∃ v,(execOp a.eval o).run P w = .ok (.value v) w ∧ RV β (Av cx.S0 β st.σ) w g v:=by
  unfold gentry at hg
  split at hg
  ·rename_i i t j since seen last hi
   split at hg
   ·rename_i j' ty es clock n hm hn
    cases hc:Nat.beq clock last with
    | false => rw [hc] at hg; cases hg
    | true =>
     rw [hc] at hg
     simp only [cond_true] at hg
     have:=Nat.eq_of_beq_eq_true hc
     subst this
     obtain ⟨ob,b,mb,hob,rfl,hb,hv,hh,hmb⟩:=iter_spec h (h.ev x) hi
     obtain ⟨b',rfl,C,hb'⟩:∃ b',mb = some b' ∧ ∃ C,β j = some (some (b',C)):=by
      rcases hmb with ⟨h1,_⟩ | ⟨j',b',C,h1,h2,h3⟩
      ·cases h1
      ·cases h1; exact ⟨b',h2,C,h3⟩
     obtain ⟨ob2,bb,ents,hjj,hob2,rfl,hb2,_,hh2,_,_,hsz,hent⟩:=gmap_spec h (.mref j b' C hb') hm
     cases hjj
     obtain rfl:b' = bb:=by rw [hb2] at hb'; cases hb'; rfl
     have hF:F2 (fun (e:MapEntry) (q:Value × G × Nat) => e.key = q.1 ∧ e.born = q.2.2 ∧ RV β (Av cx.S0 β st.σ) w q.2.1 e.val) ents.toList es:=F2.of_get (by simpa using hsz) fun k e q he hq => by
      obtain ⟨k',g,n⟩:=q
      exact hent k e k' g n (by simpa using he) hq
     split at hg
     ·rename_i k g' n' hf
      cases hg
      obtain ⟨e,he,h1,h2,h3⟩:=find_F2 (p:=fun e => e.born == n) (fun e q ⟨_,h2,_⟩ => by rw [h2]; exact nat_beq _ _) hF hf
      have he':ents.find? (fun e => e.born == n) = some e:=by rw [← he]; simp
      have hbk:(seen.toArray).back? = some n:=by simpa using hn
      refine ⟨.tuple #[e.key,e.val],?_,rv_two (by rw [h1]; exact .imm _ _ (.glit _ _ _)) h3⟩
      unfold execOp
      simp only [ho,hv,Instr.entry,Sem.run_bind,run_getObj' hh iter_nc,Result.andThen_ok,hbk,run_getObj' hh2 map_nc,bne_self_eq_false,Bool.false_eq_true,if_false,he',Sem.run_pure]
     ·cases hg
   ·cases hg
  ·cases hg
 obtain ⟨v,hrun,hr⟩:=hrun
 unfold Oper.wp
 rw [hrun]
 exact hK _ _ ⟨β,h.put o.dst hd hr⟩
end
end
end Go.Proofs.YtpehhhbmobmedaaGreatDoor
