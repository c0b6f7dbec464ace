/- A machine of values over the model, seventh part: new objects, stores, append. -/
import Derived.Test.YtpehhhbmobmedaaGreatDoorGF
import Derived.Laws.CopyRow
namespace Go.Proofs.YtpehhhbmobmedaaGreatDoor
set_option linter.unusedVariables false
set_option linter.unusedSimpArgs false
set_option linter.unusedSectionVars false
section
open Go.RowKit
section
variable {P:Program}

def gcells:G → Option (List G)
 | .agg l => some l
 | .lit v => if v.oneCell' then some [.lit v] else none
 | .tup _ => none
 | .junk => none
 | g => some [g]
theorem RV.cells {β:Bm} {S:Nat → Prop} {w:World} {g:G} {v:Value} {l:List G} (h:RV β S w g v) (hg:gcells g = some l):v.cells.size = l.length ∧ (∀ (i:Nat) (u:Value),v.cells[i]? = some u → u.oneCell' = true) ∧ ∀ (i:Nat) (g:G) (u:Value),l[i]? = some g → v.cells[i]? = some u → RV β S w g u:=by
 have one:∀ {g:G} {v:Value},RV β S w g v → v.oneCell' = true → v.cells.size = [g].length ∧ (∀ (i:Nat) (u:Value),v.cells[i]? = some u → u.oneCell' = true) ∧ ∀ (i:Nat) (g':G) (u:Value),[g][i]? = some g' → v.cells[i]? = some u → RV β S w g' u:=by
  intro g v h h1
  have hc:v.cells = #[v]:=by cases v <;> first | rfl | (simp [Value.oneCell'] at h1)
  rw [hc]
  refine ⟨rfl,fun i u hu => ?_,fun i g' u hg hu => ?_⟩
  ·have:i = 0:=by have:=(Array.getElem?_eq_some_iff.1 hu).1; simpa using this
   subst this; simp at hu; subst hu; exact h1
  ·have:i = 0:=by have:=(Array.getElem?_eq_some_iff.1 hu).1; simpa using this
   subst this; simp at hu hg; subst hu; subst hg; exact h
 cases g with
 | agg l' =>
  simp [gcells] at hg
  subst hg
  obtain ⟨us,rfl,hl,h1,hr⟩:=h.agg_form
  exact ⟨hl,h1,hr⟩
 | lit u =>
  simp only [gcells] at hg
  split at hg
  ·rename_i h1
   simp at hg; subst hg
   have:=h.lit_eq
   subst this
   exact one h h1
  ·cases hg
 | tup _ => simp [gcells] at hg
 | junk => simp [gcells] at hg
 | ptr l' o => simp [gcells] at hg; subst hg; obtain ⟨b,off,us,rfl,_⟩:=h.ptr_cells; exact one h rfl
 | sl l' n => simp [gcells] at hg; subst hg; obtain ⟨a,cap,us,rfl,_⟩:=h.sl_cells; exact one h rfl
 | clo fn f c => simp [gcells] at hg; subst hg; obtain ⟨fs,cs,rfl,_⟩:=h.clo_form; exact one h rfl
 | ifc t g => simp [gcells] at hg; subst hg; cases h with
  | imm _ _ h' => cases h' with
   | ifc _ _ u h'' => exact one (.imm _ _ (.ifc _ _ u h'')) rfl
  | ifc _ _ u h' => exact one (.ifc _ _ u h') rfl
 | ref i o => simp [gcells] at hg; subst hg; obtain ⟨b,C,_,rfl⟩:=h.ref_addr; exact one h rfl
 | mref i => simp [gcells] at hg; subst hg; obtain ⟨b,C,_,rfl⟩:=h.mref_form; exact one h rfl
 | yld i => simp [gcells] at hg; subst hg; obtain ⟨b,C,_,rfl⟩:=h.yld_form; exact one h rfl
 | rsl i o n =>
  simp [gcells] at hg; subst hg
  rcases h.rsl_form with ⟨_,rfl,_⟩ | ⟨b,C,o',cap,_,rfl,_⟩ <;> exact one h rfl

theorem RelB.regrow {cx:Cx} {st:St} {a:Act} {w w':World} {β:Bm} (h:RelB P cx st a w β) {i:Nat} {row:Option Nat} (hrow:∀ b,row = some b → ∃ ob C,sget st.σ i = some ob ∧ β i = some (some (b,C))) (hk:Keeps (fun x => row = some x) w w')
  {b C:Nat} {cur:Array Value} {ob:Ob} (hb:row = some b ∨ w.heap.size ≤ b) (hcur:w'.heap[b]? = some (.cells cur ob.t (0,0))) (hs:cur.size = C * tsz P ob.t) (hC:C ≤ maxLen) (hl:ob.l.length ≤ cur.size)
  (hx0:ob.x = none) (hr:∀ (j:Nat) (g:G),ob.l[j]? = some g → ∃ u,cur[j]? = some u ∧ u.oneCell' = true ∧ RV β (Av cx.S0 β st.σ) w g u) {k:Nat} (hkc:st.c ≤ k) :
  RelB P cx { st with σ:=(k,some ob) :: (i,none) :: st.σ,c:=k + 1 } a w' (fun j => if j = k then some (some (b,C)) else β j):=by
 have hβ:∀ i x,β i = some x → (fun j => if j = k then some (some (b,C)) else β j) i = some x:=by
  intro i x hx
  have:i ≠ k:=fun e => by rw [e,h.fresh k hkc] at hx; cases hx
  simp [this,hx]
 have hSz:∀ b',cx.S0 b' → b' < w.heap.size:=fun b' hb' => h.keep.lt (h.old b' hb')
 -- an object of the new state: the new one, or an elder one in another block
 have hg:∀ (j:Nat) o b' D,sget ((k,some ob) :: (i,none) :: st.σ) j = some o → (if j = k then some (some (b,C)) else β j) = some (some (b',D)) → (j = k ∧ o = ob ∧ b' = b) ∨ (j ≠ k ∧ j ≠ i ∧ sget st.σ j = some o ∧ β j = some (some (b',D)) ∧ b' ≠ b):=by
  intro j o b' D hj hbj
  rw [sget_cons] at hj
  by_cases e:j = k
  ·subst e
   rw [if_pos rfl] at hj hbj
   cases hj; cases hbj
   exact .inl ⟨rfl,rfl,rfl⟩
  ·rw [if_neg e] at hbj
   rw [if_neg (fun x => e x.symm),sget_cons] at hj
   split at hj
   ·cases hj
   ·rename_i hne
    refine .inr ⟨e,fun x => hne x.symm,hj,hbj,fun x => ?_⟩
    subst x
    rcases hb with hb | hb
    ·obtain ⟨o',D',h1,h2⟩:=hrow _ hb
     exact hne (h.inj i j o' o b' D' D h1 hj h2 hbj)
    ·have:=h.lt hj hbj
     omega
 have hS:∀ b',b' < w.heap.size → Av cx.S0 (fun j => if j = k then some (some (b,C)) else β j) ((k,some ob) :: (i,none) :: st.σ) b' → Av cx.S0 β st.σ b':=by
  rintro b' hlt (hx | ⟨j,o,D,hj,hx⟩)
  ·exact .inl hx
  ·rcases hg j o b' D hj hx with ⟨_,_,rfl⟩ | ⟨_,_,h1,h2,_⟩
   ·rcases hb with hb | hb
    ·obtain ⟨o',D',h1,h2⟩:=hrow _ hb
     exact .inr ⟨i,o',D',h1,h2⟩
    ·omega
   ·exact .inr ⟨j,o,D,h1,h2⟩
 have hk':Keeps (Av cx.S0 β st.σ) w w':=hk.mono fun x _ e => by obtain ⟨o',D',h1,h2⟩:=hrow x e; exact .inr ⟨i,o',D',h1,h2⟩
 exact {
  size:=h.size
  defers:=h.defers.keep hk (fun D hD e => by obtain ⟨o',D',h1,h2⟩:=hrow D e; exact h.not_marks h1 h2 hD)
  loose:=h.loose
  rnd:=h.rnd
  fr:=fun j => (h.fr j).step hβ hS hk'
  ob:=fun j o ho => by
   have ho':sget ((k,some ob) :: (i,none) :: st.σ) j = some o:=ho
   rw [sget_cons] at ho'
   by_cases e:k = j
   ·subst e
    rw [if_pos rfl] at ho'
    cases ho'
    refine .inr (.inr ⟨b,C,cur,hx0,by simp,hcur,hs,hC,hl,fun j g hg => ?_⟩)
    obtain ⟨u,hu,h1,hr'⟩:=hr j g hg
    exact ⟨u,hu,h1,hr'.step hβ hS hk'⟩
   ·rw [if_neg e,sget_cons] at ho'
    split at ho'
    ·cases ho'
    ·rename_i hne
     exact (h.ob j o ho').step hβ hS hk' (fun b' D hb' => hk.block b' (h.lt ho' hb') (fun x => by
      obtain ⟨o',D',h1,h2⟩:=hrow b' x
      exact hne (h.inj i j o' o b' D' D h1 ho' h2 hb')))
  inj:=fun x y o o' b' D E hx hy hbx hby => by
   rcases hg x o b' D hx hbx with ⟨rfl,_,rfl⟩ | ⟨n1,_,h1,h2,h3⟩ <;> rcases hg y o' b' E hy hby with ⟨rfl,_,e⟩ | ⟨n2,_,h4,h5,h6⟩
   ·rfl
   ·exact absurd rfl h6
   ·exact absurd e h3
   ·exact h.inj x y o o' b' D E h1 h4 h2 h5
  own:=fun x o b' D hx hbx => by
   rcases hg x o b' D hx hbx with ⟨_,_,rfl⟩ | ⟨_,_,h1,h2,_⟩
   ·rcases hb with hb | hb
    ·obtain ⟨o',D',h1,h2⟩:=hrow _ hb
     exact h.own i o' b' D' h1 h2
    ·have:=h.keep.size
     right; omega
   ·exact h.own x o b' D h1 h2
  sep:=fun x o b' D hx hbx => by
   rcases hg x o b' D hx hbx with ⟨_,_,rfl⟩ | ⟨_,_,h1,h2,_⟩
   ·rcases hb with hb | hb
    ·obtain ⟨o',D',h1,h2⟩:=hrow _ hb
     exact h.sep i o' b' D' h1 h2
    ·intro hx'; have:=hSz b' hx'; omega
   ·exact h.sep x o b' D h1 h2
  fresh:=fun x hx => by
   have hx':k + 1 ≤ x:=hx
   have e:x ≠ k:=by omega
   simp only [e,if_false]
   exact h.fresh x (by omega)
  glob:=fun g l hl => (h.glob g l hl).step hS hk'
  keep:=h.keep.then hk (fun x hx e => by
   obtain ⟨o',D',h1,h2⟩:=hrow x e
   rcases h.own i o' x D' h1 h2 with h3 | h3
   ·exact h3
   ·omega)
  old:=h.old
  pin:=fun i x hx => ⟨(h.pin i x hx).1,hβ i x (h.pin i x hx).2⟩ }

theorem RelB.mat {cx:Cx} {st:St} {a:Act} {w w':World} {β:Bm} (h:RelB P cx st a w β) {i:Nat} {row:Option Nat} (hrow:∀ b,row = some b → ∃ ob C,sget st.σ i = some ob ∧ β i = some (some (b,C))) (hk:Keeps (fun x => row = some x) w w')
  {b C:Nat} {cur:Array Value} {ob:Ob} (hb:row = some b ∨ w.heap.size ≤ b) (hcur:w'.heap[b]? = some (.cells cur ob.t (0,0))) (hs:cur.size = C * tsz P ob.t) (hC:C ≤ maxLen) (hl:ob.l.length ≤ cur.size)
  (hx0:ob.x = none) (hr:∀ (j:Nat) (g:G),ob.l[j]? = some g → ∃ u,cur[j]? = some u ∧ u.oneCell' = true ∧ RV β (Av cx.S0 β st.σ) w g u) {k:Nat} {ob0:Ob} (hr0:sget st.σ k = some ob0) (hx1:ob0.x = some .resv) (hpk:st.p ≤ k) :
  RelB P cx { st with σ:=(k,some ob) :: (i,none) :: st.σ } a w' (fun j => if j = k then some (some (b,C)) else β j):=by
 have hk0:β k = some none:=by
  rcases h.ob k ob0 hr0 with ⟨h1,_⟩ | ⟨b,x,o,h1,_,_,_,h5⟩ | ⟨b,C,cur,h1,_⟩
  ·exact h1
  ·rw [hx1] at h1; cases h1; exact h5.elim
  ·rw [hx1] at h1; cases h1
 have hβ:∀ i x,β i = some (some x) → (fun j => if j = k then some (some (b,C)) else β j) i = some (some x):=by
  intro i x hx
  have:i ≠ k:=fun e => by rw [e,hk0] at hx; cases hx
  simp [this,hx]
 have hn:∀ i,β i ≠ none → (fun j => if j = k then some (some (b,C)) else β j) i ≠ none:=by
  intro i hi
  show (if i = k then some (some (b,C)) else β i) ≠ none
  split
  ·simp
  ·exact hi
 have hSz:∀ b',cx.S0 b' → b' < w.heap.size:=fun b' hb' => h.keep.lt (h.old b' hb')
 -- an object of the new state: the new one, or an elder one in another block
 have hg:∀ (j:Nat) o b' D,sget ((k,some ob) :: (i,none) :: st.σ) j = some o → (if j = k then some (some (b,C)) else β j) = some (some (b',D)) → (j = k ∧ o = ob ∧ b' = b) ∨ (j ≠ k ∧ j ≠ i ∧ sget st.σ j = some o ∧ β j = some (some (b',D)) ∧ b' ≠ b):=by
  intro j o b' D hj hbj
  rw [sget_cons] at hj
  by_cases e:j = k
  ·subst e
   rw [if_pos rfl] at hj hbj
   cases hj; cases hbj
   exact .inl ⟨rfl,rfl,rfl⟩
  ·rw [if_neg e] at hbj
   rw [if_neg (fun x => e x.symm),sget_cons] at hj
   split at hj
   ·cases hj
   ·rename_i hne
    refine .inr ⟨e,fun x => hne x.symm,hj,hbj,fun x => ?_⟩
    subst x
    rcases hb with hb | hb
    ·obtain ⟨o',D',h1,h2⟩:=hrow _ hb
     exact hne (h.inj i j o' o b' D' D h1 hj h2 hbj)
    ·have:=h.lt hj hbj
     omega
 have hS:∀ b',b' < w.heap.size → Av cx.S0 (fun j => if j = k then some (some (b,C)) else β j) ((k,some ob) :: (i,none) :: st.σ) b' → Av cx.S0 β st.σ b':=by
  rintro b' hlt (hx | ⟨j,o,D,hj,hx⟩)
  ·exact .inl hx
  ·rcases hg j o b' D hj hx with ⟨_,_,rfl⟩ | ⟨_,_,h1,h2,_⟩
   ·rcases hb with hb | hb
    ·obtain ⟨o',D',h1,h2⟩:=hrow _ hb
     exact .inr ⟨i,o',D',h1,h2⟩
    ·omega
   ·exact .inr ⟨j,o,D,h1,h2⟩
 have hk':Keeps (Av cx.S0 β st.σ) w w':=hk.mono fun x _ e => by obtain ⟨o',D',h1,h2⟩:=hrow x e; exact .inr ⟨i,o',D',h1,h2⟩
 exact {
  size:=h.size
  defers:=h.defers.keep hk (fun D hD e => by obtain ⟨o',D',h1,h2⟩:=hrow D e; exact h.not_marks h1 h2 hD)
  loose:=h.loose
  rnd:=h.rnd
  fr:=fun j => (h.fr j).stepW hβ hn hS hk'.cells
  ob:=fun j o ho => by
   have ho':sget ((k,some ob) :: (i,none) :: st.σ) j = some o:=ho
   rw [sget_cons] at ho'
   by_cases e:k = j
   ·subst e
    rw [if_pos rfl] at ho'
    cases ho'
    refine .inr (.inr ⟨b,C,cur,hx0,by simp,hcur,hs,hC,hl,fun j g hg => ?_⟩)
    obtain ⟨u,hu,h1,hr'⟩:=hr j g hg
    exact ⟨u,hu,h1,hr'.stepW hβ hn hS hk'.cells⟩
   ·rw [if_neg e,sget_cons] at ho'
    split at ho'
    ·cases ho'
    ·rename_i hne
     exact (h.ob j o ho').stepW hβ hn (by simp [show ¬ j = k from fun x => e x.symm]) hS hk'.cells (fun b' D hb' => hk.block b' (h.lt ho' hb') (fun x => by
      obtain ⟨o',D',h1,h2⟩:=hrow b' x
      exact hne (h.inj i j o' o b' D' D h1 ho' h2 hb')))
  inj:=fun x y o o' b' D E hx hy hbx hby => by
   rcases hg x o b' D hx hbx with ⟨rfl,_,rfl⟩ | ⟨n1,_,h1,h2,h3⟩ <;> rcases hg y o' b' E hy hby with ⟨rfl,_,e⟩ | ⟨n2,_,h4,h5,h6⟩
   ·rfl
   ·exact absurd rfl h6
   ·exact absurd e h3
   ·exact h.inj x y o o' b' D E h1 h4 h2 h5
  own:=fun x o b' D hx hbx => by
   rcases hg x o b' D hx hbx with ⟨_,_,rfl⟩ | ⟨_,_,h1,h2,_⟩
   ·rcases hb with hb | hb
    ·obtain ⟨o',D',h1,h2⟩:=hrow _ hb
     exact h.own i o' b' D' h1 h2
    ·have:=h.keep.size
     right; omega
   ·exact h.own x o b' D h1 h2
  sep:=fun x o b' D hx hbx => by
   rcases hg x o b' D hx hbx with ⟨_,_,rfl⟩ | ⟨_,_,h1,h2,_⟩
   ·rcases hb with hb | hb
    ·obtain ⟨o',D',h1,h2⟩:=hrow _ hb
     exact h.sep i o' b' D' h1 h2
    ·intro hx'; have:=hSz b' hx'; omega
   ·exact h.sep x o b' D h1 h2
  fresh:=fun x hx => by
   have e:x ≠ k:=fun e => by rw [e] at hx; have:=h.fresh k hx; rw [hk0] at this; cases this
   simp only [e,if_false]
   exact h.fresh x hx
  glob:=fun g l hl => (h.glob g l hl).step hS hk'
  keep:=h.keep.then hk (fun x hx e => by
   obtain ⟨o',D',h1,h2⟩:=hrow x e
   rcases h.own i o' x D' h1 h2 with h3 | h3
   ·exact h3
   ·omega)
  old:=h.old
  pin:=fun i x hx => by
   obtain ⟨h1,h2⟩:=h.pin i x hx
   have e:i ≠ k:=by omega
   exact ⟨h1,by simp only [e,if_false]; exact h2⟩ }

theorem RelB.matV {cx:Cx} {st:St} {a:Act} {w:World} {β:Bm} (h:RelB P cx st a w β) (t:TypeId) {k:Nat} {ob0:Ob} (hr0:sget st.σ k = some ob0) (hx1:ob0.x = some .resv):RelB P cx { st with σ:=(k,some ⟨t,[],none⟩) :: st.σ } a w β:=by
 have hk0:β k = some none:=by
  rcases h.ob k ob0 hr0 with ⟨h1,_⟩ | ⟨b,x,o,h1,_,_,_,h5⟩ | ⟨b,C,cur,h1,_⟩
  ·exact h1
  ·rw [hx1] at h1; cases h1; exact h5.elim
  ·rw [hx1] at h1; cases h1
 have hg:∀ i o b C,sget ((k,some ⟨t,[],none⟩) :: st.σ) i = some o → β i = some (some (b,C)) → sget st.σ i = some o:=by
  intro i o b C ho hb
  rw [sget_cons] at ho
  split at ho
  ·subst_vars; rw [hk0] at hb; cases hb
  ·exact ho
 have hS:∀ b',b' < w.heap.size → Av cx.S0 β ((k,some ⟨t,[],none⟩) :: st.σ) b' → Av cx.S0 β st.σ b':=by
  rintro b' _ (hx | ⟨i,o,D,ho,hx⟩)
  ·exact .inl hx
  ·exact .inr ⟨i,o,D,hg i o b' D ho hx,hx⟩
 exact { h with
  fr:=fun i => (h.fr i).step (fun _ _ x => x) hS (Keeps.refl _ _)
  ob:=fun i o ho => by
   have ho':sget ((k,some ⟨t,[],none⟩) :: st.σ) i = some o:=ho
   rw [sget_cons] at ho'
   split at ho'
   ·subst_vars; cases ho'; exact .inl ⟨hk0,rfl,.inl rfl⟩
   ·exact (h.ob i o ho').step (fun _ _ x => x) hS (Keeps.refl _ _) (fun _ _ _ => rfl)
  inj:=fun i j o o' b C D hi hj hb hb' => h.inj i j o o' b C D (hg i o b C hi hb) (hg j o' b D hj hb') hb hb'
  glob:=fun g l hl => (h.glob g l hl).sub hS
  own:=fun i o b C hi hb => h.own i o b C (hg i o b C hi hb) hb
  sep:=fun i o b C hi hb => h.sep i o b C (hg i o b C hi hb) hb }
def plNum (st:St):Option Nat → Nat
 | none => st.c
 | some k => k
def plC (st:St):Option Nat → Nat
 | none => st.c + 1
 | some _ => st.c
def plOk (st:St):Option Nat → Prop
 | none => True
 | some k => st.p ≤ k ∧ ∃ ob0,sget st.σ k = some ob0 ∧ ob0.x = some .resv
theorem RelB.regrowP {cx:Cx} {st:St} {a:Act} {w w':World} {β:Bm} (h:RelB P cx st a w β) {i:Nat} {row:Option Nat} (hrow:∀ b,row = some b → ∃ ob C,sget st.σ i = some ob ∧ β i = some (some (b,C))) (hk:Keeps (fun x => row = some x) w w')
  {b C:Nat} {cur:Array Value} {ob:Ob} (hb:row = some b ∨ w.heap.size ≤ b) (hcur:w'.heap[b]? = some (.cells cur ob.t (0,0))) (hs:cur.size = C * tsz P ob.t) (hC:C ≤ maxLen) (hl:ob.l.length ≤ cur.size)
  (hx0:ob.x = none) (hr:∀ (j:Nat) (g:G),ob.l[j]? = some g → ∃ u,cur[j]? = some u ∧ u.oneCell' = true ∧ RV β (Av cx.S0 β st.σ) w g u) {pl:Option Nat} (hpl:plOk st pl) :
  RelB P cx { st with σ:=(plNum st pl,some ob) :: (i,none) :: st.σ,c:=plC st pl } a w' (fun j => if j = plNum st pl then some (some (b,C)) else β j):=by
 cases pl with
 | none => exact h.regrow hrow hk hb hcur hs hC hl hx0 hr (Nat.le_refl _)
 | some k =>
  obtain ⟨h1,ob0,h2,h3⟩:=hpl
  exact h.mat hrow hk hb hcur hs hC hl hx0 hr h2 h3 h1

def St.new (st:St) (d:Option Tmp) (t:TypeId) (l:List G) (g:G):St:={ st with σ:=(st.c,some ⟨t,l,none⟩) :: st.σ,c:=st.c + 1 }.put d g
def St.newP (st:St) (pl:Option Nat) (d:Option Tmp) (t:TypeId) (l:List G) (g:G):St:=match pl with
 | none => st.new d t l g
 | some k => { st with σ:=(k,some ⟨t,l,none⟩) :: (k,none) :: st.σ }.put d g
theorem RelB.newP {cx:Cx} {st:St} {a:Act} {w:World} {β:Bm} (h:RelB P cx st a w β) {t:TypeId} {cur:Array Value} {l:List G} {C:Nat} (hs:cur.size = C * tsz P t) (hC:C ≤ maxLen) (hl:l.length = cur.size) (h1:∀ (i:Nat) (u:Value),cur[i]? = some u → u.oneCell' = true)
  (hr:∀ (i:Nat) (g:G) (u:Value),l[i]? = some g → cur[i]? = some u → RV β (Av cx.S0 β st.σ) w g u) (d:Option Tmp) (hd:∀ x,d = some x → x < st.n) {g:G} {v:Value} {pl:Option Nat} (hpl:plOk st pl) (hv:∀ β':Bm,β' (plNum st pl) = some (some (w.heap.size,C)) → ∀ S w',RV β' S w' g v) :
  Rel P cx (st.newP pl d t l g) (a.put d v) (w.alloc (.cells cur t)):=by
 have hrr:∀ (j:Nat) (g:G),l[j]? = some g → ∃ u,cur[j]? = some u ∧ u.oneCell' = true ∧ RV β (Av cx.S0 β st.σ) w g u:=fun j g hg => by
  have hlt:=(List.getElem?_eq_some_iff.1 hg).1
  have hu:cur[j]? = some (cur[j]'(by omega)):=by simp [show j < cur.size by omega]
  exact ⟨_,hu,h1 _ _ hu,hr _ _ _ hg hu⟩
 cases pl with
 | none =>
  have:=h.alloc (w':=w.alloc (.cells cur t)) ((Keeps.refl _ _).alloc _) (b:=w.heap.size) (C:=C) (cur:=cur) (ob:=⟨t,l,none⟩) (Nat.le_refl _) (heap_alloc_new w _) hs hC (by simp [hl]) rfl hrr (Nat.le_refl st.c)
  exact ⟨_,this.put d hd (hv _ (by simp [plNum]) _ _)⟩
 | some k =>
  have:=h.regrowP (i:=k) (row:=none) (w':=w.alloc (.cells cur t)) (fun _ e => by cases e) ((Keeps.refl _ _).alloc _) (b:=w.heap.size) (C:=C) (cur:=cur) (ob:=⟨t,l,none⟩) (.inr (Nat.le_refl _)) (heap_alloc_new w _) hs hC (by simp [hl]) rfl hrr hpl
  exact ⟨_,this.put d hd (hv _ (by simp [plNum]) _ _)⟩
theorem gs_boxP {pl:Option Nat} {o:Oper} {st:St} {t:TypeId} {x:Operand} {l:List G} (ho:o.op = .box t x) (hd:∀ d,o.dst = some d → d < st.n) (hg:gcells (gev st x) = some l) (hl:l.length = tsz P t) (hpl:plOk st pl):GS P o st (st.newP pl o.dst t l (.ref (plNum st pl) 0)):=by
 intro cx a w K R ⟨β,h⟩ hK
 obtain ⟨c1,c2,c3⟩:=(h.ev x).cells hg
 have hrun:(execOp a.eval o).run P w = .ok (.value (.pointer (some ⟨w.heap.size,0,none⟩))) (w.alloc (.cells (a.eval x).cells t)):=by
  unfold execOp
  simp [ho,Instr.box,newVar,newRow]
 refine h.loose.oper (fun c hc => by rw [ho] at hc; cases hc) ?_
 unfold Oper.wp
 rw [hrun]
 exact hK _ _ (h.newP (hpl:=hpl) (C:=1) (by omega) (by unfold maxLen; omega) c1.symm c2 c3 o.dst hd (fun β' hb S w' => .ref _ _ _ _ hb))

theorem gs_box {o:Oper} {st:St} {t:TypeId} {x:Operand} {l:List G} (ho:o.op = .box t x) (hd:∀ d,o.dst = some d → d < st.n) (hg:gcells (gev st x) = some l) (hl:l.length = tsz P t):GS P o st (st.new o.dst t l (.ref st.c 0)):=gs_boxP (pl:=none) ho hd hg hl trivial
def tzero (P:Program) (t:TypeId):Option (List Value):=((P.info? t).bind (·.zero)).bind fun z => if z.cells.all (·.oneCell') then some z.cells.toList else none
theorem tzero_spec {t:TypeId} {zs:List Value} (h:tzero P t = some zs):∃ i z,P.info? t = some i ∧ i.zero = some z ∧ z.cells.toList = zs ∧ ∀ v ∈ zs,v.oneCell' = true:=by
 simp only [tzero,Option.bind_eq_some_iff] at h
 obtain ⟨z,⟨i,hi,hz⟩,h⟩:=h
 split at h
 ·rename_i hall
  cases h
  exact ⟨i,z,hi,hz,rfl,fun v hv => Array.all_eq_true_iff_forall_mem.1 hall v (by simpa using hv)⟩
 ·cases h
theorem lits_rv {β:Bm} {S:Nat → Prop} {w:World} {zs:List Value} {us:Array Value} (hu:us.toList = zs):∀ (i:Nat) (g:G) (u:Value),(zs.map G.lit)[i]? = some g → us[i]? = some u → RV β S w g u:=by
 intro i g u hg h
 subst hu
 rw [List.getElem?_map,Array.getElem?_toList,h] at hg
 simp at hg
 subst hg
 exact .imm _ _ (.lit u)
theorem gs_allocP {pl:Option Nat} {o:Oper} {st:St} {t:TypeId} {zs:List Value} (ho:o.op = .alloc t) (hd:∀ d,o.dst = some d → d < st.n) (hz:tzero P t = some zs) (hl:zs.length = tsz P t) (hpl:plOk st pl):GS P o st (st.newP pl o.dst t (zs.map .lit) (.ref (plNum st pl) 0)):=by
 intro cx a w K R ⟨β,h⟩ hK
 obtain ⟨i,z,hi,hz,he,h1⟩:=tzero_spec hz
 have hrun:(execOp a.eval o).run P w = .ok (.value (.pointer (some ⟨w.heap.size,0,none⟩))) (w.alloc (.cells z.cells t)):=by
  unfold execOp
  simp [ho,Instr.alloc,newVar,newRow,zeroValue,typeInfo,hi,hz]
 have hsz:z.cells.size = zs.length:=by rw [← he]; simp
 refine h.loose.oper (fun c hc => by rw [ho] at hc; cases hc) ?_
 unfold Oper.wp
 rw [hrun]
 exact hK _ _ (h.newP (hpl:=hpl) (C:=1) (by omega) (by unfold maxLen; omega) (by simp [hsz]) (fun i u hu => h1 u (by rw [← he]; exact List.mem_of_getElem? (by simpa using hu))) (lits_rv he) o.dst hd (fun β' hb S w' => .ref _ _ _ _ hb))

theorem gs_alloc {o:Oper} {st:St} {t:TypeId} {zs:List Value} (ho:o.op = .alloc t) (hd:∀ d,o.dst = some d → d < st.n) (hz:tzero P t = some zs) (hl:zs.length = tsz P t):GS P o st (st.new o.dst t (zs.map .lit) (.ref st.c 0)):=gs_allocP (pl:=none) ho hd hz hl trivial
theorem splice_rel {R:G → Value → Prop} {gs gs':List G} {xs xs':List Value} {k:Nat} (h:∀ (j:Nat) (g:G),gs[j]? = some g → ∃ u,xs[j]? = some u ∧ R g u) (h':∀ (j:Nat) (g:G),gs'[j]? = some g → ∃ u,xs'[j]? = some u ∧ R g u) (hl:gs'.length = xs'.length) (hx:gs.length ≤ xs.length) (hk:k + gs'.length ≤ gs.length) :
  ∀ (j:Nat) (g:G),(gs.take k ++ gs' ++ gs.drop (k + gs'.length))[j]? = some g → ∃ u,(xs.take k ++ xs' ++ xs.drop (k + xs'.length))[j]? = some u ∧ R g u:=by
 intro j g hj
 have a1:(gs.take k).length = k:=by simp; omega
 have a2:(xs.take k).length = k:=by simp; omega
 by_cases c1:j < k
 ·rw [List.append_assoc,List.getElem?_append_left (by omega),List.getElem?_take,if_pos c1] at hj
  obtain ⟨u,hu,hr⟩:=h j g hj
  exact ⟨u,by rw [List.append_assoc,List.getElem?_append_left (by omega),List.getElem?_take,if_pos c1]; exact hu,hr⟩
 ·by_cases c2:j < k + gs'.length
  ·rw [List.append_assoc,List.getElem?_append_right (by omega),a1,List.getElem?_append_left (by omega)] at hj
   obtain ⟨u,hu,hr⟩:=h' _ g hj
   exact ⟨u,by rw [List.append_assoc,List.getElem?_append_right (by omega),a2,List.getElem?_append_left (by omega)]; exact hu,hr⟩
  ·rw [List.getElem?_append_right (by simp; omega),List.getElem?_drop] at hj
   obtain ⟨u,hu,hr⟩:=h _ g hj
   refine ⟨u,?_,hr⟩
   rw [List.getElem?_append_right (by simp; omega),List.getElem?_drop,← hu]
   congr 1
   simp only [List.length_append,a1,a2,hl]

theorem gs_store {o:Oper} {st:St} {t:TypeId} {x y:Operand} {i k:Nat} {ob:Ob} {l:List G} (ho:o.op = .store t x y) (hd:∀ d,o.dst = some d → d < st.n) (hx:gev st x = .ref i k) (hob:sget st.σ i = some ob) (hxo:ob.x = none) (hy:gcells (gev st y) = some l) {n:Nat} (ht:tsize P t = some n) (hl:l.length = n) (hle:k + n ≤ ob.l.length) :
  GS P o st ({ st with σ:=(i,some ⟨ob.t,ob.l.take k ++ l ++ ob.l.drop (k + n),none⟩) :: st.σ }.put o.dst (.lit undef)):=by
 intro cx a w K R ⟨β,h⟩ hK
 have hx':=h.ev x
 rw [hx] at hx'
 obtain ⟨b,C,hb,hv⟩:=hx'.ref_addr
 obtain ⟨c1,c2,c3⟩:=(h.ev y).cells hy
 rcases h.ob i ob hob with ⟨h1,_⟩ | ⟨b',x',o',hx',_⟩ | ⟨b',C',cur,_,h1,h2,h3,h4,h5,h6⟩
 ·rw [h1] at hb; cases hb
 ·rw [hxo] at hx'; cases hx'
 rw [h1] at hb; cases hb
 have hst:=run_storeCells_at (P:=P) b k ob.t (a.eval y).cells.toList 0 cur w h2 (by simp; omega) (fun v hv => by
  obtain ⟨j,hj⟩:=List.mem_iff_getElem?.1 hv
  exact c2 j v (by simpa using hj))
 simp only [Nat.add_zero,Array.length_toList] at hst
 have hrun:(execOp a.eval o).run P w = .ok .skip (w.setRow b (cur.toList.take k ++ (a.eval y).cells.toList ++ cur.toList.drop (k + (a.eval y).cells.size)).toArray):=by
  unfold execOp
  simp only [ho,hv,Instr.storeAt,Instr.sureAddr]
  simp only [Sem.run_bind,Sem.run_pure,Result.andThen_ok,storeVar,run_sizeOf ht]
  have e:¬ ((a.eval y).cells.size ≠ n):=by omega
  rw [if_neg e]
  simp only [Result.andThen_ok,hst]
 have hsz:(cur.toList.take k ++ (a.eval y).cells.toList ++ cur.toList.drop (k + (a.eval y).cells.size)).toArray.size = cur.size:=by simp; omega
 have hh:=setRow_heap w b cur (cur.toList.take k ++ (a.eval y).cells.toList ++ cur.toList.drop (k + (a.eval y).cells.size)).toArray ob.t (0,0) h2
 have hkeep:Keeps (fun x => x = b) w (w.setRow b (cur.toList.take k ++ (a.eval y).cells.toList ++ cur.toList.drop (k + (a.eval y).cells.size)).toArray):=⟨rfl,rfl,rfl,by simp,fun x _ hx => setRow_other w b x _ hx,Nat.le_refl _⟩
 have hw:=h.write (l:=ob.l.take k ++ l ++ ob.l.drop (k + n)) hob h1 hkeep hh (by rw [hsz]; exact h3) h4 (by rw [hsz]; simp; omega) (fun j g hg => by
  rw [← hl] at hg
  obtain ⟨u,hu,h7,h8⟩:=splice_rel (R:=fun g u => u.oneCell' = true ∧ RV β (Av cx.S0 β st.σ) w g u) (xs:=cur.toList) (xs':=(a.eval y).cells.toList) (fun j g hg => by
   obtain ⟨u,hu,h7,h8⟩:=h6 j g hg
   exact ⟨u,by rw [Array.getElem?_toList]; exact hu,h7,h8⟩) (fun j g hg => by
   have hlt:=(List.getElem?_eq_some_iff.1 hg).1
   have hu:(a.eval y).cells[j]? = some ((a.eval y).cells[j]'(by omega)):=by simp [show j < (a.eval y).cells.size by omega]
   exact ⟨_,by rw [Array.getElem?_toList]; exact hu,c2 j _ hu,c3 j g _ hg hu⟩) (by simp [c1]) (by simpa using h5) (by omega) j g hg
  exact ⟨u,by simpa using hu,h7,h8⟩)
 refine h.loose.oper (fun c hc => by rw [ho] at hc; cases hc) ?_
 unfold Oper.wp
 rw [hrun]
 exact hK _ _ ⟨β,hw.put o.dst hd (.imm _ _ (.lit _))⟩
end
end
section
open Go.RowKit
section
variable {P:Program}

def Rw (β:Bm) (S:Nat → Prop) (w:World) (l:List G) (us:List Value):Prop:=us.length = l.length ∧ (∀ u ∈ us,u.oneCell' = true) ∧ ∀ (i:Nat) (g:G) (u:Value),l[i]? = some g → us[i]? = some u → RV β S w g u
theorem Rw.splice {β:Bm} {S:Nat → Prop} {w:World} {l l':List G} {us us':List Value} (h:Rw β S w l us) (h':Rw β S w l' us') {k:Nat} (hk:k + l'.length ≤ l.length):Rw β S w (l.take k ++ l' ++ l.drop (k + l'.length)) (us.take k ++ us' ++ us.drop (k + us'.length)):=by
 obtain ⟨a1,a2,a3⟩:=h
 obtain ⟨b1,b2,b3⟩:=h'
 refine ⟨by simp [a1,b1],fun u hu => ?_,fun i g u hg hu => ?_⟩
 ·simp only [List.mem_append] at hu
  rcases hu with (hu | hu) | hu
  ·exact a2 u (List.mem_of_mem_take hu)
  ·exact b2 u hu
  ·exact a2 u (List.mem_of_mem_drop hu)
 ·obtain ⟨u',hu',hr⟩:=splice_rel (R:=fun g u => RV β S w g u) (xs:=us) (xs':=us') (fun j g hg => by
   have hlt:=(List.getElem?_eq_some_iff.1 hg).1
   have hx:us[j]? = some (us[j]'(by omega)):=by simp [show j < us.length by omega]
   exact ⟨_,hx,a3 j g _ hg hx⟩) (fun j g hg => by
   have hlt:=(List.getElem?_eq_some_iff.1 hg).1
   have hx:us'[j]? = some (us'[j]'(by omega)):=by simp [show j < us'.length by omega]
   exact ⟨_,hx,b3 j g _ hg hx⟩) b1.symm (by omega) hk i g hg
  rw [hu] at hu'
  cases hu'
  exact hr
theorem Rw.of_cells {β:Bm} {S:Nat → Prop} {w:World} {g:G} {v:Value} {l:List G} (h:RV β S w g v) (hg:gcells g = some l):Rw β S w l v.cells.toList:=by
 obtain ⟨c1,c2,c3⟩:=h.cells hg
 refine ⟨by simpa using c1,fun u hu => ?_,fun i g u hl hu => c3 i g u hl (by simpa using hu)⟩
 obtain ⟨j,hj⟩:=List.mem_iff_getElem?.1 hu
 exact c2 j u (by simpa using hj)
theorem Rw.lits {β:Bm} {S:Nat → Prop} {w:World} {zs:List Value} (h:∀ v ∈ zs,v.oneCell' = true):Rw β S w (zs.map .lit) zs:=by
 refine ⟨by simp,h,fun i g u hg hu => ?_⟩
 rw [List.getElem?_map,hu] at hg
 simp at hg
 subst hg
 exact .imm _ _ (.lit u)

def gfill (place:Nat → Option (Nat × Nat)):List G → List (Nat × G) → Option (List G)
 | cells,[] => some cells
 | cells,(i,g) :: r => match place i,gcells g with
  | some (off,sz),some cs => if cs.length = sz ∧ off + sz ≤ cells.length then gfill place (cells.take off ++ cs ++ cells.drop (off + cs.length)) r else none
  | _,_ => none
theorem gfill_run {β:Bm} {S:Nat → Prop} {w:World} {place:Nat → Option (Nat × Nat)} {ρ:Operand → G} {e:Operand → Value} (he:∀ x,RV β S w (ρ x) (e x)):∀ (parts:List (Nat × Operand)) {cells out:List G} {us:List Value},Rw β S w cells us → gfill place cells (parts.map fun p => (p.1,ρ p.2)) = some out →
  ∃ us',Instr.fill place us.toArray (parts.map fun p => (p.1,e p.2)) = some us'.toArray ∧ Rw β S w out us'
 | [],cells,out,us,h,hg => by simp [gfill] at hg; subst hg; exact ⟨us,rfl,h⟩
 | (i,x) :: r,cells,out,us,h,hg => by
  simp only [List.map_cons,gfill] at hg
  split at hg
  ·rename_i off sz cs hp hc
   split at hg
   ·rename_i hb
    have hx:=Rw.of_cells (he x) hc
    have hsz:(e x).cells.size = sz:=by have:=hx.1; simp at this; omega
    obtain ⟨us',hu,hr⟩:=gfill_run he r (h.splice hx (k:=off) (by omega)) hg
    refine ⟨us',?_,hr⟩
    rw [List.map_cons,fill_cons place us.toArray i off sz (e x) _ hp hsz (by have:=h.1; simp; omega)]
    have h1:=h.1
    have hf:=foldl_set (e x).cells.toList (us.take off) (us.drop off) off (by simp; omega) (by simp; omega)
    rw [List.take_append_drop] at hf
    rw [← Array.foldl_toList,Array.toList_zipIdx,hf,← hu]
    simp
   ·cases hg
  ·cases hg

def tplaces (P:Program) (t:TypeId):Option (List (Nat × Nat)):=(P.underlying t).bind fun | .struct fs => fs.toList.mapM (fun f => (P.info? f.type).map fun i => (f.offset,i.size)) | _ => none
theorem tplaces_spec {t:TypeId} {pl:List (Nat × Nat)} (h:tplaces P t = some pl):∃ fs,P.underlying t = some (.struct fs) ∧ fs.toList.mapM (fun f => (P.info? f.type).map fun i => (f.offset,i.size)) = some pl:=by
 simp only [tplaces,Option.bind_eq_some_iff] at h
 obtain ⟨d,hd,h⟩:=h
 cases d <;> simp at h
 exact ⟨_,hd,h⟩
def gbuild (P:Program) (t:TypeId) (parts:List (Nat × G)):Option G :=
 match tplaces P t,tzero P t with
 | some pl,some zs => (gfill (pl[·]?) (zs.map .lit) parts).map .agg
 | _,_ => none
theorem gs_build {o:Oper} {st:St} {t:TypeId} {parts:Array (Nat × Operand)} {g:G} (ho:o.op = .build t parts) (hd:∀ d,o.dst = some d → d < st.n) (hg:gbuild P t (parts.toList.map fun p => (p.1,gev st p.2)) = some g):GS P o st (st.put o.dst g):=by
 intro cx a w K R ⟨β,h⟩ hK
 unfold gbuild at hg
 split at hg
 ·rename_i pl zs hp hz
  obtain ⟨i,z,hi,hz',hzs,h1⟩:=tzero_spec hz
  obtain ⟨fs,hu,hpl⟩:=tplaces_spec hp
  simp only [Option.map_eq_some_iff] at hg
  obtain ⟨out,hout,rfl⟩:=hg
  obtain ⟨us,hus,hr⟩:=gfill_run (β:=β) (S:=Av cx.S0 β st.σ) (w:=w) (e:=a.eval) (fun x => h.ev x) parts.toList (Rw.lits h1) hout
  have hb:P.built t ((parts.map fun (p:Nat × Operand) => (p.1,a.eval p.2)).toList) = some us.toArray:=by
   unfold Program.built
   simp only [hi,hu,hz',hpl]
   rw [← hus,← hzs]
   simp
  have hrun:(execOp a.eval o).run P w = .ok (.value (.agg us.toArray)) w:=by
   unfold execOp
   simp [ho,run_build w t _ _ hb]
  refine h.loose.oper (fun c hc => by rw [ho] at hc; cases hc) ?_
  unfold Oper.wp
  rw [hrun]
  refine hK _ _ ⟨β,h.put o.dst hd (.agg _ _ (by simpa using hr.1) (fun i u hu => ?_) (fun i g u hg hu => hr.2.2 i g u hg (by simpa using hu)))⟩
  exact hr.2.1 u (List.mem_of_getElem? (by simpa using hu))
 ·cases hg

def gzeros (zs:List Value) (n:Nat):List Value:=(List.range n).map fun i => zs.getD (i % zs.length) undef
theorem gs_buildSliceP {pl:Option Nat} {o:Oper} {st:St} {t e:TypeId} {n s:Nat} {parts:Array (Nat × Operand)} {zs:List Value} {l:List G} (ho:o.op = .buildSlice t n parts) (hd:∀ d,o.dst = some d → d < st.n) (he:telem P t = some e) (hs:tsize P e = some s) (hz:tzero P e = some zs) (hzl:zs.length = s) (hn:n * s ≤ 16777216) (hn2:n ≤ 1000000)
  (hg:gfill (fun i => some (i * s,s)) ((gzeros zs (n * s)).map .lit) (parts.toList.map fun p => (p.1,gev st p.2)) = some l) (hpl:plOk st pl):GS P o st (st.newP pl o.dst e l (.rsl (plNum st pl) 0 n)):=by
 intro cx a w K R ⟨β,h⟩ hK
 obtain ⟨i,z,hi,hz',hzs,h1⟩:=tzero_spec hz
 have ht:=telem_spec he
 have hzz:∀ v ∈ gzeros zs (n * s),v.oneCell' = true:=by
  intro v hv
  simp only [gzeros,List.mem_map,List.mem_range] at hv
  obtain ⟨k,hk,rfl⟩:=hv
  have hpos:0 < zs.length:=by
   rcases Nat.eq_zero_or_pos zs.length with h0 | h0
   ·rw [← hzl,h0] at hk; simp at hk
   ·exact h0
  have hlt:=Nat.mod_lt k hpos
  rw [List.getD_eq_getElem?_getD,List.getElem?_eq_getElem hlt]
  exact h1 _ (List.getElem_mem hlt)
 obtain ⟨us,hus,hr⟩:=gfill_run (β:=β) (S:=Av cx.S0 β st.σ) (w:=w) (e:=a.eval) (fun x => h.ev x) parts.toList (Rw.lits hzz) hg
 have hlen:∀ (ps:List (Nat × G)) (cells out:List G),gfill (fun i => some (i * s,s)) cells ps = some out → out.length = cells.length:=by
  intro ps
  induction ps with
  | nil => intro cells out h; simp [gfill] at h; rw [h]
  | cons p r ih =>
   intro cells out h
   obtain ⟨k,g⟩:=p
   simp only [gfill] at h
   split at h
   ·rename_i off sz cs hp hc
    split at h
    ·rename_i hb
     rw [ih _ _ h]; simp; omega
    ·cases h
   ·cases h
 have hll:l.length = n * s:=by rw [hlen _ _ _ hg]; simp [gzeros]
 have hnew:(newRow e us.toArray).run P w = .ok ⟨w.heap.size,0,none⟩ (w.alloc (.cells us.toArray e)):=by simp [newRow]
 have hrun:(execOp a.eval o).run P w = .ok (.value (.slice (some ⟨w.heap.size,0,none⟩) n n)) (w.alloc (.cells us.toArray e)):=by
  unfold execOp
  simp only [ho]
  unfold Instr.buildSlice
  simp only [Sem.run_bind,run_underlying ht,Result.andThen_ok,run_sizeOf hs]
  have e1:¬ (n * s > 2 ^ 24):=by omega
  rw [if_neg e1]
  have hparts:(parts.map fun (x:Nat × Operand) => (x.1,a.eval x.2)).toList = parts.toList.map fun p => (p.1,a.eval p.2):=by simp
  by_cases h0:n * s = 0
  ·have hrep:∀ f:Nat → Value,(Array.range 0).map f = (gzeros zs (n * s)).toArray:=fun f => by rw [h0]; simp [gzeros]
   simp only [h0,if_true,Sem.run_bind,Sem.run_pure,Result.andThen_ok]
   simp only [hrep,hparts,hus,Sem.run_bind,hnew,Result.andThen_ok,Sem.run_pure]
  ·have hrep:((Array.range (n * s)).map fun x => z.cells[x % z.cells.size]!) = (gzeros zs (n * s)).toArray:=by
    apply Array.ext (by simp [gzeros])
    intro j h1' h2'
    have hj:j < n * s:=by simpa using h1'
    have hpos:0 < zs.length:=by
     rcases Nat.eq_zero_or_pos zs.length with h0 | h0
     ·rw [← hzl,h0] at hj; simp at hj
     ·exact h0
    have hlt:=Nat.mod_lt j hpos
    have hsz:z.cells.size = zs.length:=by rw [← hzs]; simp
    simp only [Array.getElem_map,Array.getElem_range,gzeros,List.getElem_toArray,List.getElem_map,List.getElem_range,hsz]
    rw [List.getD_eq_getElem?_getD,List.getElem?_eq_getElem hlt,getElem!_pos z.cells _ (by omega)]
    simp only [Option.getD_some,← hzs,Array.getElem_toList]
   have hzv:(zeroValue e).run P w = .ok z w:=by simp [zeroValue,typeInfo,hi,hz']
   simp only [h0,if_false,Sem.run_bind,Sem.run_pure,Result.andThen_ok,hzv,hrep,hparts,hus,hnew]
 refine h.loose.oper (fun c hc => by rw [ho] at hc; cases hc) ?_
 unfold Oper.wp
 rw [hrun]
 have hul:us.length = n * s:=by rw [hr.1,hll]
 refine hK _ _ (h.newP (hpl:=hpl) (C:=n) (by rw [tsz_of hs]; simpa using hul) (by unfold maxLen; omega) (by simp [hul,hll]) (fun j u hu => hr.2.1 u (List.mem_of_getElem? (by simpa using hu))) (fun j g u hg hu => hr.2.2 j g u hg (by simpa using hu)) o.dst hd (fun β' hb S w' => .rsl _ _ _ _ _ _ _ hb (Nat.le_refl _) (by unfold maxLen; omega) (fun _ => rfl) (fun _ => ⟨rfl,rfl⟩)))
end
end
end Go.Proofs.YtpehhhbmobmedaaGreatDoor
