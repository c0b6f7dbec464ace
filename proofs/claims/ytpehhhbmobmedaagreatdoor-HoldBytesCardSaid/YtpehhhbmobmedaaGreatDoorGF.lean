/- A machine of values over the model, fifth part: the values that operations tell are right. -/
import Derived.Test.YtpehhhbmobmedaaGreatDoorGD
namespace Go.Proofs.YtpehhhbmobmedaaGreatDoor
set_option linter.unusedVariables false
set_option linter.unusedSimpArgs false
set_option linter.unusedSectionVars false
section
open Go.RowKit
section
variable {P:Program}

theorem run_isAgg {t:TypeId} {b:Bool} (h:tagg P t = some b) (w:World):(isAgg t).run P w = .ok b w:=by
 simp only [tagg,Option.map_eq_some_iff] at h
 obtain ⟨d,hd,rfl⟩:=h
 unfold isAgg
 simp only [Sem.run_bind,run_underlying hd,Result.andThen_ok]
 cases d <;> rfl
theorem run_sizeOf {t:TypeId} {n:Nat} (h:tsize P t = some n) (w:World):(sizeOf t).run P w = .ok n w:=by
 simp only [tsize,Option.map_eq_some_iff] at h
 obtain ⟨i,hi,rfl⟩:=h
 simp [sizeOf,typeInfo,hi]
theorem tsz_of {t:TypeId} {n:Nat} (h:tsize P t = some n):tsz P t = n:=by
 unfold tsz; unfold tsize at h; rw [h]; rfl

theorem gplain_run {cx:Cx} {st:St} {a:Act} {w:World} {β:Bm} (h:RelB P cx st a w β) {o:Oper} (hs:∀ cs b,o.op ≠ .select cs b) {g:G} (hg:gplain P (gev st) o = some g):∃ v,(execOp a.eval o).run P w = .ok (.value v) w ∧ RV β (Av cx.S0 β st.σ) w g v:=by
 unfold gplain at hg
 split at hg
 ·rename_i hall
  have hc:execOp a.eval o = execOp (fun x => (gval (gev st x)).getD undef) o:=by
   refine execOp_congr o hs fun x hx => ?_
   have:=Array.all_eq_true_iff_forall_mem.1 hall x hx
   obtain ⟨u,hu⟩:=Option.isSome_iff_exists.1 this
   rw [(h.ev x).val hu,hu]; rfl
  split at hg
  ·rename_i v hv
   simp only [Option.some.injEq] at hg
   subst hg
   exact ⟨v,by rw [hc]; exact spure_run hv w,.imm _ _ (.glit _ _ v)⟩
  ·cases hg
 ·cases hg

def Cl (β:Bm) (S:Nat → Prop) (w:World) (l:List G) (b off:Nat) (us:Nat → Value):Prop :=
 (∀ i,i < l.length → w.cell? ⟨b,off + i,none⟩ = some (us i)) ∧ (∀ i,i < l.length → (us i).oneCell' = true) ∧ ∀ (i:Nat) (g:G),l[i]? = some g → RV β S w g (us i)
theorem addr_add_zero' (a:Addr):a.add 0 = a:=by unfold Addr.add; simp
theorem add_none (b o i:Nat):(⟨b,o,none⟩:Addr).add i = ⟨b,o + i,none⟩:=by unfold Addr.add; split <;> simp_all
theorem gpart_load {β:Bm} {S:Nat → Prop} {w:World} {l:List G} {b off:Nat} {us:Nat → Value} (hc:Cl β S w l b off us) {t:TypeId} {o:Nat} {g:G} (hg:gpart P t l o = some g) :
  ∃ v,(loadVar t ⟨b,off + o,none⟩).run P w = .ok v w ∧ RV β S w g v:=by
 unfold gpart at hg
 split at hg
 ·rename_i n h1 h2
  split at hg
  ·rename_i hle
   simp only [Option.some.injEq] at hg
   subst hg
   refine ⟨.agg ((List.range n).map fun i => us (o + i)).toArray,?_,?_⟩
   ·unfold loadVar
    simp only [Sem.run_bind,run_isAgg h1,Result.andThen_ok,if_true,run_sizeOf h2]
    rw [run_loadCells w ⟨b,off + o,none⟩ n (fun i => us (o + i)) (fun j hj => by rw [add_none,Nat.add_assoc]; exact hc.1 (o + j) (by omega))]
    rfl
   ·refine .agg _ _ (by simp; omega) (fun i u hu => ?_) (fun i g u hl hu => ?_)
    ·have hi:i < n:=by have:=(Array.getElem?_eq_some_iff.1 hu).1; simpa using this
     obtain rfl:us (o + i) = u:=by simpa [hi] using hu
     exact hc.2.1 _ (by omega)
    ·have hi:i < n:=by have:=(Array.getElem?_eq_some_iff.1 hu).1; simpa using this
     obtain rfl:us (o + i) = u:=by simpa [hi] using hu
     rw [List.getElem?_take,if_pos hi,List.getElem?_drop] at hl
     exact hc.2.2 _ _ hl
  ·cases hg
 ·have h1:tagg P t = some false:=by assumption
  have hlt:=(List.getElem?_eq_some_iff.1 hg).1
  refine ⟨us o,?_,hc.2.2 _ _ hg⟩
  unfold loadVar
  simp only [Sem.run_bind,run_isAgg h1,Result.andThen_ok]
  simp [load,Sem.run,hc.1 o hlt]
 ·cases hg
theorem gpart_part {β:Bm} {S:Nat → Prop} {w:World} {l:List G} {us:Array Value} (hl:us.size = l.length) (h1:∀ (i:Nat) (u:Value),us[i]? = some u → u.oneCell' = true) (h:∀ (i:Nat) (g:G) (u:Value),l[i]? = some g → us[i]? = some u → RV β S w g u)
  {t:TypeId} {o:Nat} {g:G} (hg:gpart P t l o = some g):∃ v,(part t us o).run P w = .ok v w ∧ RV β S w g v:=by
 unfold gpart at hg
 split at hg
 ·rename_i n h2 h3
  split at hg
  ·rename_i hle
   simp only [Option.some.injEq] at hg
   subst hg
   refine ⟨.agg (us.extract o (o + n)),?_,?_⟩
   ·unfold part
    simp only [Sem.run_bind,run_isAgg h2,Result.andThen_ok,if_true,run_sizeOf h3]
    rfl
   ·refine .agg _ _ (by simp; omega) (fun i u hu => ?_) (fun i g u hl' hu => ?_)
    ·rw [Array.getElem?_extract] at hu
     split at hu
     ·exact h1 _ _ hu
     ·cases hu
    ·rw [Array.getElem?_extract] at hu
     split at hu
     ·rw [List.getElem?_take] at hl'
      split at hl'
      ·rw [List.getElem?_drop] at hl'
       exact h _ _ _ hl' hu
      ·cases hl'
     ·cases hu
  ·cases hg
 ·have h2:tagg P t = some false:=by assumption
  have hlt:=(List.getElem?_eq_some_iff.1 hg).1
  have hu:us[o]? = some (us[o]'(by omega)):=by simp [show o < us.size by omega]
  refine ⟨us[o]'(by omega),?_,h _ _ _ hg hu⟩
  unfold part
  simp only [Sem.run_bind,run_isAgg h2,Result.andThen_ok,Bool.false_eq_true,if_false,hu]
  rfl
 ·cases hg

theorem RV.ptr_cells {β:Bm} {S:Nat → Prop} {w:World} {l:List G} {o:Nat} {v:Value} (h:RV β S w (.ptr l o) v):∃ b off us,v = .pointer (some ⟨b,off + o,none⟩) ∧ ¬ S b ∧ b < w.heap.size ∧ Cl β S w l b off us:=by
 cases h with
 | imm _ _ h =>
  cases h with
  | ptr _ _ b off us hs hb hc h1 h => exact ⟨b,off,us,rfl,hs,hb,hc,h1,fun i g hg => .imm _ _ (h i g hg)⟩
theorem RV.ref_addr {β:Bm} {S:Nat → Prop} {w:World} {i o:Nat} {v:Value} (h:RV β S w (.ref i o) v):∃ b C,β i = some (some (b,C)) ∧ v = .pointer (some ⟨b,o,none⟩):=by
 cases h with
 | imm _ _ h => cases h
 | ref _ _ b C h => exact ⟨b,C,h,rfl⟩
theorem RV.mref_form {β:Bm} {S:Nat → Prop} {w:World} {i:Nat} {v:Value} (h:RV β S w (.mref i) v):∃ b C,β i = some (some (b,C)) ∧ v = .map (some b):=by
 cases h with
 | imm _ _ h => cases h
 | mref _ b C h => exact ⟨b,C,h,rfl⟩
theorem RV.yld_form {β:Bm} {S:Nat → Prop} {w:World} {i:Nat} {v:Value} (h:RV β S w (.yld i) v):∃ b C,β i = some (some (b,C)) ∧ v = .func (.yield b) #[] #[]:=by
 cases h with
 | imm _ _ h => cases h
 | yld _ b C h => exact ⟨b,C,h,rfl⟩
theorem RO.cells {β:Bm} {S:Nat → Prop} {w:World} {i b C:Nat} {ob:Ob} (h:RO P β S w i ob) (hb:β i = some (some (b,C))):∃ us,Cl β S w ob.l b 0 us:=by
 rcases h with ⟨h1,_⟩ | ⟨b',x',o',_,hl,_⟩ | ⟨b',C',cur,_,h1,h2,h3,h4,h5,h6⟩
 ·rw [h1] at hb; cases hb
 ·rw [hl]
  exact ⟨fun _ => undef,fun i hi => absurd hi (by simp),fun i hi => absurd hi (by simp),fun i g hg => by simp at hg⟩
 ·rw [h1] at hb; cases hb
  have hu:∀ i,i < ob.l.length → cur[i]? = some (cur.getD i undef):=fun i hi => by
   have:i < cur.size:=by omega
   simp [this]
  refine ⟨fun i => cur.getD i undef,fun i hi => ?_,fun i hi => ?_,fun i g hg => ?_⟩
  ·rw [cell_of_row w b (0 + i) cur _ _ h2,Nat.zero_add]; exact hu i hi
  ·obtain ⟨u,hu',h1',_⟩:=h6 i _ (List.getElem?_eq_getElem hi)
   rw [hu i hi] at hu'; cases hu'; exact h1'
  ·have hi:=(List.getElem?_eq_some_iff.1 hg).1
   obtain ⟨u,hu',_,hr⟩:=h6 i g hg
   rw [hu i hi] at hu'; cases hu'; exact hr

theorem gload_run {cx:Cx} {st:St} {a:Act} {w:World} {β:Bm} (h:RelB P cx st a w β) {t:TypeId} {x g:G} {v:Value} (hx:RV β (Av cx.S0 β st.σ) w x v) (hg:gload P st.σ t x = some g) :
  ∃ u,(Instr.loadAt t v).run P w = .ok u w ∧ RV β (Av cx.S0 β st.σ) w g u:=by
 unfold gload at hg
 split at hg
 ·rename_i i o
  rw [Option.bind_eq_some_iff] at hg
  obtain ⟨ob,ho,hg⟩:=hg
  obtain ⟨b,C,hb,rfl⟩:=hx.ref_addr
  obtain ⟨us,hc⟩:=(h.ob i ob ho).cells hb
  obtain ⟨u,hu,hr⟩:=gpart_load hc hg
  refine ⟨u,?_,hr⟩
  rw [Nat.zero_add] at hu
  simpa [Instr.loadAt,Instr.sureAddr] using hu
 ·rename_i l o
  obtain ⟨b,off,us,rfl,hs,hb,hc⟩:=hx.ptr_cells
  obtain ⟨u,hu,hr⟩:=gpart_load hc hg
  exact ⟨u,by simpa [Instr.loadAt,Instr.sureAddr] using hu,hr⟩
 ·cases hg
theorem gaddr_run {β:Bm} {S:Nat → Prop} {w:World} {x g:G} {v:Value} {k:Nat} (hx:RV β S w x v) (hg:gaddr k x = some g):∃ a,v = .pointer (some a) ∧ RV β S w g (.pointer (some (a.add k))):=by
 cases x with
 | ref i o =>
  simp [gaddr] at hg
  subst hg
  obtain ⟨b,C,hb,rfl⟩:=hx.ref_addr
  exact ⟨_,rfl,by rw [add_none]; exact .ref _ _ b C hb⟩
 | ptr l o =>
  simp [gaddr] at hg
  subst hg
  cases hx with
  | imm _ _ h =>
   cases h with
   | ptr _ _ b off us hs hb hc h1 h => exact ⟨_,rfl,by rw [add_none,Nat.add_assoc]; exact .imm _ _ (.ptr l (o + k) b off us hs hb hc h1 h)⟩
 | _ => simp [gaddr] at hg

theorem gint_run {β:Bm} {S:Nat → Prop} {w:World} {x:G} {v:Value} {n:Int} (hx:RV β S w x v) (hg:gint x = some n):∃ k,v = .int k n:=by
 cases x with
 | lit u =>
  cases u with
  | int k m => simp [gint] at hg; subst hg; exact ⟨k,hx.lit_eq⟩
  | _ => simp [gint] at hg
 | _ => simp [gint] at hg
theorem telem_spec {t e:TypeId} (h:telem P t = some e):P.underlying t = some (.slice e):=by
 simp only [telem,Option.bind_eq_some_iff] at h
 obtain ⟨d,hd,h⟩:=h
 cases d <;> simp at h
 subst h; exact hd
theorem tarr_spec {t e:TypeId} {n:Nat} (h:tarr P t = some (n,e)):P.underlying t = some (.array n e):=by
 simp only [tarr,Option.bind_eq_some_iff] at h
 obtain ⟨d,hd,h⟩:=h
 cases d <;> simp at h
 obtain ⟨rfl,rfl⟩:=h; exact hd
theorem tfield_spec {t ft:TypeId} {k off:Nat} (h:tfield P t k = some (off,ft)):∃ fs f,P.underlying t = some (.struct fs) ∧ fs[k]? = some f ∧ f.offset = off ∧ f.type = ft:=by
 simp only [tfield,Option.bind_eq_some_iff] at h
 obtain ⟨d,hd,h⟩:=h
 cases d <;> simp at h
 obtain ⟨f,hf,h1,h2⟩:=h
 exact ⟨_,f,hd,by simpa using hf,h1,h2⟩

theorem RV.sl_cells {β:Bm} {S:Nat → Prop} {w:World} {l:List G} {n:Nat} {v:Value} (h:RV β S w (.sl l n) v):∃ (a:Option Addr) (cap:Nat) (us:Nat → Value),v = .slice a n cap ∧ n ≤ cap ∧ cap ≤ maxLen ∧ (∀ i,i < l.length → ∃ b off,a = some ⟨b,off,none⟩ ∧ ¬ S b ∧ b < w.heap.size ∧ w.cell? ⟨b,off + i,none⟩ = some (us i)) ∧ (∀ i,i < l.length → (us i).oneCell' = true) ∧ ∀ (i:Nat) (g:G),l[i]? = some g → IV S w g (us i):=by
 cases h with
 | imm _ _ h =>
  cases h with
  | sl _ _ a cap us hn hm ha h1 h => exact ⟨a,cap,us,rfl,hn,hm,ha,h1,h⟩
theorem RV.rsl_form {β:Bm} {S:Nat → Prop} {w:World} {i o n:Nat} {v:Value} (h:RV β S w (.rsl i o n) v) :
  (β i ≠ none ∧ v = .slice none 0 0 ∧ n = 0) ∨ ∃ b C o' cap,β i = some (some (b,C)) ∧ v = .slice (some ⟨b,o',none⟩) n cap ∧ n ≤ cap ∧ cap ≤ maxLen ∧ (cap ≠ 0 → o' = o) ∧ (o = 0 → cap = C ∧ o' = 0):=by
 cases h with
 | imm _ _ h => cases h
 | rsl0 _ _ h => exact .inl ⟨h,rfl,rfl⟩
 | rsl _ _ _ b C o' cap h hn hm ho hC => exact .inr ⟨b,C,o',cap,h,rfl,hn,hm,ho,hC⟩

theorem gindex_run {β:Bm} {S:Nat → Prop} {w:World} {t:TypeId} {x g:G} {v:Value} {i:Int} {k:IntKind} (hx:RV β S w x v) (hg:gindex P t x i = some g):∃ u,(Instr.indexAt t v (.int k i)).run P w = .ok u w ∧ RV β S w g u:=by
 unfold gindex at hg
 split at hg
 ·rename_i l n e he
  have ht:=telem_spec he
  rw [Option.bind_eq_some_iff] at hg
  obtain ⟨s,hs,hg⟩:=hg
  split at hg
  ·rename_i hb
   obtain ⟨h0,hn,hl⟩:=hb
   simp only [Option.some.injEq] at hg
   subst hg
   obtain ⟨a,cap,us,rfl,hn',hm,ha,h1,h⟩:=hx.sl_cells
   obtain ⟨b,off,rfl,hS,hlt,_⟩:=ha 0 (by omega)
   refine ⟨.pointer (some ⟨b,off + i.toNat * s,none⟩),?_,.imm _ _ (.ptr l _ b off us hS hlt (fun i hi => ?_) h1 h)⟩
   ·simp [Instr.indexAt,asIntOf,run_underlying ht,h0,hn,run_sizeOf hs,add_none]
   ·obtain ⟨b',off',e',_,_,hc⟩:=ha i hi
    cases e'
    exact hc
  ·cases hg
 ·rename_i j o n e he
  have ht:=telem_spec he
  rw [Option.bind_eq_some_iff] at hg
  obtain ⟨s,hs,hg⟩:=hg
  split at hg
  ·rename_i hb
   obtain ⟨h0,hn⟩:=hb
   simp only [Option.some.injEq] at hg
   subst hg
   rcases hx.rsl_form with ⟨_,_,rfl⟩ | ⟨b,C,o',cap,hbt,rfl,hn',hm,ho,hC⟩
   ·omega
   ·have:o' = o:=ho (by omega)
    subst this
    refine ⟨.pointer (some ⟨b,o' + i.toNat * s,none⟩),?_,.ref _ _ b C hbt⟩
    simp [Instr.indexAt,asIntOf,run_underlying ht,h0,hn,run_sizeOf hs,add_none]
  ·cases hg
 ·rename_i x n e he1 he
  have ht:=tarr_spec he
  rw [Option.bind_eq_some_iff] at hg
  obtain ⟨s,hs,hg⟩:=hg
  split at hg
  ·rename_i hb
   obtain ⟨h0,hn⟩:=hb
   obtain ⟨a,rfl,hr⟩:=gaddr_run hx hg
   refine ⟨_,?_,hr⟩
   simp [Instr.indexAt,Instr.sureAddr,asIntOf,run_underlying ht,h0,hn,run_sizeOf hs]
  ·cases hg
 ·cases hg

theorem bound_run {P:Program} (x:Value) (n:Int) (y:Nat) (code:BoundsCode) (hx:∃ k,x = .int k n) (h0:0 ≤ n) (hn:n ≤ y) (w:World):(Instr.sliceBound x y code).run P w = .ok n.toNat w:=by
 obtain ⟨k,rfl⟩:=hx
 simp [Instr.sliceBound,asIntOf,h0,hn]
theorem slice_run {t e:TypeId} {s:Nat} (ht:P.underlying t = some (.slice e)) (hs:tsize P e = some s) (a:Option Addr) (n cap:Nat) (lo hi:Option Value) (L H:Nat)
  (hL:(lo = none ∧ L = 0) ∨ ∃ v k,lo = some v ∧ v = .int k (L:Int)) (hH:(hi = none ∧ H = n) ∨ ∃ v k,hi = some v ∧ v = .int k (H:Int)) (h1:L ≤ H) (h2:H ≤ cap) (w:World) :
  (Instr.sliceAt t (.slice a n cap) lo hi none).run P w = .ok (.slice (if cap = L then a else a.map (·.add (L * s))) (H - L) (cap - L)) w:=by
 have e1:(Instr.sliceBounds true n cap lo hi none).run P w = .ok (L,H,cap) w:=by
  unfold Instr.sliceBounds
  rcases hH with ⟨rfl,rfl⟩ | ⟨v,k,rfl,rfl⟩ <;> rcases hL with ⟨rfl,rfl⟩ | ⟨v',k',rfl,rfl⟩
  ·simp
  ·simp [bound_run (P:=P) (.int k' (L:Int)) (L:Int) H .sliceB ⟨k',rfl⟩ (by omega) (by omega)]
  ·simp [bound_run (P:=P) (.int k (H:Int)) (H:Int) cap .sliceAcap ⟨k,rfl⟩ (by omega) (by omega)]
  ·simp [bound_run (P:=P) (.int k (H:Int)) (H:Int) cap .sliceAcap ⟨k,rfl⟩ (by omega) (by omega),bound_run (P:=P) (.int k' (L:Int)) (L:Int) H .sliceB ⟨k',rfl⟩ (by omega) (by omega)]
 unfold Instr.sliceAt
 simp only [Sem.run_bind,run_underlying ht,Result.andThen_ok]
 unfold Instr.slice
 simp only [Sem.run_bind,run_underlying ht,Result.andThen_ok,e1,run_sizeOf hs]
 rfl

theorem sl_sub {S:Nat → Prop} {w:World} {l l':List G} {n N L s:Nat} {a:Option Addr} {cap:Nat} {us:Nat → Value} (hn:N ≤ cap - L) (hcap:L ≤ cap) (hm:cap ≤ maxLen) (ha:∀ i,i < l.length → ∃ b off,a = some ⟨b,off,none⟩ ∧ ¬ S b ∧ b < w.heap.size ∧ w.cell? ⟨b,off + i,none⟩ = some (us i))
  (h1:∀ i,i < l.length → (us i).oneCell' = true) (h:∀ (i:Nat) (g:G),l[i]? = some g → IV S w g (us i)) (hl:∀ (i:Nat) (g:G),l'[i]? = some g → l[L * s + i]? = some g) (h0:cap = L → l' = []) :
  IV S w (.sl l' N) (.slice (if cap = L then a else a.map (·.add (L * s))) N (cap - L)):=by
 by_cases hc:cap = L
 ·rw [h0 hc,if_pos hc]
  exact .sl [] N _ _ us hn (by omega) (by simp) (by simp) (by simp)
 ·rw [if_neg hc]
  have hlt:∀ i,i < l'.length → L * s + i < l.length:=fun i hi => (List.getElem?_eq_some_iff.1 (hl i _ (List.getElem?_eq_getElem hi))).1
  refine .sl l' N _ _ (fun i => us (L * s + i)) hn (by omega) (fun i hi => ?_) (fun i hi => h1 _ (hlt i hi)) (fun i g hg => h _ _ (hl i g hg))
  obtain ⟨b,off,rfl,hS,hb,hc⟩:=ha _ (hlt i hi)
  exact ⟨b,off + L * s,by simp [add_none],hS,hb,by rw [Nat.add_assoc]; exact hc⟩

def Bnd (β:Bm) (S:Nat → Prop) (w:World) (x:Option Int) (v:Option Value):Prop:=(x = none ∧ v = none) ∨ ∃ n u k,x = some n ∧ v = some u ∧ u = .int k n
theorem optInt_run {β:Bm} {S:Nat → Prop} {w:World} {x:Option G} {v:Option Value} {b:Option Int} (h:∀ g,x = some g → ∃ u,v = some u ∧ RV β S w g u) (hn:x = none → v = none) (hb:optInt x = some b):Bnd β S w b v:=by
 cases x with
 | none => simp [optInt] at hb; exact .inl ⟨hb.symm,hn rfl⟩
 | some g =>
  simp only [optInt,Option.map_eq_some_iff] at hb
  obtain ⟨n,hg,rfl⟩:=hb
  obtain ⟨u,hu,hr⟩:=h g rfl
  obtain ⟨k,hk⟩:=gint_run hr hg
  exact .inr ⟨n,u,k,rfl,hu,hk⟩
theorem Bnd.lo {β:Bm} {S:Nat → Prop} {w:World} {x:Option Int} {v:Option Value} (h:Bnd β S w x v) (L:Nat) (h0:x = none → L = 0) (h1:∀ n,x = some n → (L:Int) = n):(v = none ∧ L = 0) ∨ ∃ u k,v = some u ∧ u = .int k (L:Int):=by
 rcases h with ⟨rfl,rfl⟩ | ⟨n,u,k,rfl,rfl,rfl⟩
 ·exact .inl ⟨rfl,h0 rfl⟩
 ·exact .inr ⟨_,k,rfl,by rw [h1 n rfl]⟩
theorem Bnd.hi {β:Bm} {S:Nat → Prop} {w:World} {x:Option Int} {v:Option Value} (h:Bnd β S w x v) (H n:Nat) (h0:x = none → H = n) (h1:∀ m,x = some m → (H:Int) = m):(v = none ∧ H = n) ∨ ∃ u k,v = some u ∧ u = .int k (H:Int):=by
 rcases h with ⟨rfl,rfl⟩ | ⟨m,u,k,rfl,rfl,rfl⟩
 ·exact .inl ⟨rfl,h0 rfl⟩
 ·exact .inr ⟨_,k,rfl,by rw [h1 m rfl]⟩

theorem gslice_run {β:Bm} {S:Nat → Prop} {w:World} {t:TypeId} {x g:G} {v:Value} {lo hi:Option Int} {vl vh:Option Value} (hx:RV β S w x v) (bl:Bnd β S w lo vl) (bh:Bnd β S w hi vh) (hg:gslice P t x lo hi = some g) :
  ∃ u,(Instr.sliceAt t v vl vh none).run P w = .ok u w ∧ RV β S w g u:=by
 unfold gslice at hg
 split at hg
 ·rename_i l n e he
  have ht:=telem_spec he
  rw [Option.bind_eq_some_iff] at hg
  obtain ⟨s,hs,hg⟩:=hg
  obtain ⟨a,cap,us,rfl,hn,hm,ha,h1,h⟩:=hx.sl_cells
  have key:∀ (L H:Nat) (l':List G),(lo = none → L = 0) → (∀ n,lo = some n → (L:Int) = n) → (hi = none → H = n) → (∀ m,hi = some m → (H:Int) = m) → L ≤ H → H ≤ n → (∀ (i:Nat) (g:G),l'[i]? = some g → l[L * s + i]? = some g) → (H = L → l' = []) → 
    ∃ u,(Instr.sliceAt t (.slice a n cap) vl vh none).run P w = .ok u w ∧ RV β S w (.sl l' (H - L)) u:=by
   intro L H l' a1 a2 a3 a4 a5 a6 a7 a8
   refine ⟨_,slice_run ht hs a n cap vl vh L H (bl.lo L a1 a2) (bh.hi H n a3 a4) a5 (by omega) w,.imm _ _ (sl_sub (n:=n) (by omega) (by omega) hm ha h1 h a7 (fun hc => a8 (by omega)))⟩
  split at hg
  ·simp only [Option.some.injEq] at hg
   subst hg
   refine ⟨_,slice_run ht hs a n cap vl vh 0 n (bl.lo 0 (fun _ => rfl) (by simp)) (bh.hi n n (fun _ => rfl) (by simp)) (by omega) hn w,?_⟩
   have hz:(if cap = 0 then a else a.map (·.add (0 * s))) = a:=by
    split
    ·rfl
    ·cases a <;> simp [addr_add_zero']
   rw [hz]
   exact hx
  ·rename_i h'
   split at hg
   ·rename_i hb
    simp only [Option.some.injEq] at hg
    subst hg
    obtain ⟨u,hu,hr⟩:=key 0 h'.toNat (l.take (h'.toNat * s)) (fun _ => rfl) (by simp) (by simp) (by simp; omega) (by omega) (by omega) (fun i g hg => by
     rw [List.getElem?_take] at hg
     split at hg
     ·simpa using hg
     ·cases hg) (fun e => by rw [e]; simp)
    exact ⟨u,hu,by simpa using hr⟩
   ·cases hg
  ·rename_i a'
   split at hg
   ·rename_i hb
    simp only [Option.some.injEq] at hg
    subst hg
    obtain ⟨u,hu,hr⟩:=key a'.toNat n (l.drop (a'.toNat * s)) (by simp) (by simp; omega) (fun _ => rfl) (by simp) (by omega) (by omega) (fun i g hg => by
     rw [List.getElem?_drop] at hg
     exact hg) (fun e => by rw [List.drop_eq_nil_iff,← e]; exact hb.2.2)
    exact ⟨u,hu,hr⟩
   ·cases hg
  ·rename_i a' h'
   split at hg
   ·rename_i hb
    simp only [Option.some.injEq] at hg
    subst hg
    obtain ⟨u,hu,hr⟩:=key a'.toNat h'.toNat ((l.take (h'.toNat * s)).drop (a'.toNat * s)) (by simp) (by simp; omega) (by simp) (by simp; omega) (by omega) (by omega) (fun i g hg => by
     rw [List.getElem?_drop,List.getElem?_take] at hg
     split at hg
     ·exact hg
     ·cases hg) (fun e => by rw [e]; simp)
    exact ⟨u,hu,hr⟩
   ·cases hg
 ·rename_i i o n e he
  have ht:=telem_spec he
  rw [Option.bind_eq_some_iff] at hg
  obtain ⟨s,hs,hg⟩:=hg
  split at hg
  ·cases hg
  rename_i hs0
  have key:∀ (L H:Nat),(lo = none → L = 0) → (∀ n,lo = some n → (L:Int) = n) → (hi = none → H = n) → (∀ m,hi = some m → (H:Int) = m) → L ≤ H → H ≤ n →
    ∃ u,(Instr.sliceAt t v vl vh none).run P w = .ok u w ∧ RV β S w (.rsl i (o + L * s) (H - L)) u:=by
   intro L H a1 a2 a3 a4 a5 a6
   rcases hx.rsl_form with ⟨hb,rfl,rfl⟩ | ⟨b,C,o',cap,hb,rfl,hn,hm,ho,hC⟩
   ·obtain rfl:H = 0:=by omega
    obtain rfl:L = 0:=by omega
    refine ⟨_,slice_run ht hs none 0 0 vl vh 0 0 (bl.lo 0 a1 a2) (bh.hi 0 0 (fun _ => rfl) a4) (by omega) (by omega) w,?_⟩
    simpa using RV.rsl0 i _ hb
   ·refine ⟨_,slice_run ht hs _ n cap vl vh L H (bl.lo L a1 a2) (bh.hi H n a3 a4) a5 (by omega) w,?_⟩
    by_cases hc:cap = L
    ·rw [if_pos hc]
     refine .rsl i _ _ b C o' _ hb (by omega) (by omega) (fun x => absurd (by omega) x) (fun hz => ?_)
     have:L = 0:=by
      rcases Nat.eq_zero_or_pos L with h | h
      ·exact h
      ·have:=Nat.mul_pos h (Nat.pos_of_ne_zero hs0); omega
     have h2:=hC (by omega)
     omega
    ·rw [if_neg hc]
     simp only [Option.map_some,add_none]
     refine .rsl i _ _ b C _ _ hb (by omega) (by omega) (fun x => by rw [ho (by omega)]) (fun hz => ?_)
     have:L = 0:=by
      rcases Nat.eq_zero_or_pos L with h | h
      ·exact h
      ·have:=Nat.mul_pos h (Nat.pos_of_ne_zero hs0); omega
     have h2:=hC (by omega)
     omega
  split at hg
  ·simp only [Option.some.injEq] at hg
   subst hg
   obtain ⟨u,hu,hr⟩:=key 0 n (fun _ => rfl) (by simp) (fun _ => rfl) (by simp) (by omega) (by omega)
   exact ⟨u,hu,by simpa using hr⟩
  ·rename_i h'
   split at hg
   ·rename_i hb
    simp only [Option.some.injEq] at hg
    subst hg
    obtain ⟨u,hu,hr⟩:=key 0 h'.toNat (fun _ => rfl) (by simp) (by simp) (by simp; omega) (by omega) (by omega)
    exact ⟨u,hu,by simpa using hr⟩
   ·cases hg
  ·rename_i a'
   split at hg
   ·rename_i hb
    simp only [Option.some.injEq] at hg
    subst hg
    exact key a'.toNat n (by simp) (by simp; omega) (fun _ => rfl) (by simp) (by omega) (by omega)
   ·cases hg
  ·rename_i a' h'
   split at hg
   ·rename_i hb
    simp only [Option.some.injEq] at hg
    subst hg
    exact key a'.toNat h'.toNat (by simp) (by simp; omega) (by simp) (by simp; omega) (by omega) (by omega)
   ·cases hg
 ·cases hg
end
end
section
open Go.RowKit
section
variable {P:Program}

theorem RV.clo_form {β:Bm} {S:Nat → Prop} {w:World} {fn:Fn} {a b:List G} {v:Value} (h:RV β S w (.clo fn a b) v):∃ fs cs:Array Value,v = .func fn fs cs ∧ fs.size = a.length ∧ cs.size = b.length ∧ (∀ (i:Nat) (g:G) (u:Value),a[i]? = some g → fs[i]? = some u → RV β S w g u) ∧ (∀ (i:Nat) (g:G) (u:Value),b[i]? = some g → cs[i]? = some u → RV β S w g u):=by
 cases h with
 | imm _ _ h =>
  cases h with
  | clo _ _ _ fs cs hf hc h h' => exact ⟨fs,cs,rfl,hf,hc,fun i g u a b => .imm _ _ (h i g u a b),fun i g u a b => .imm _ _ (h' i g u a b)⟩
 | clo _ _ _ fs cs hf hc h h' => exact ⟨fs,cs,rfl,hf,hc,h,h'⟩
theorem RV.tup_form {β:Bm} {S:Nat → Prop} {w:World} {l:List G} {v:Value} (h:RV β S w (.tup l) v):∃ us:Array Value,v = .tuple us ∧ us.size = l.length ∧ (∀ (i:Nat) (g:G) (u:Value),l[i]? = some g → us[i]? = some u → RV β S w g u):=by
 cases h with
 | imm _ _ h =>
  cases h with
  | tup _ us hl h => exact ⟨us,rfl,hl,fun i g u a b => .imm _ _ (h i g u a b)⟩
 | tup _ us hl h => exact ⟨us,rfl,hl,h⟩
theorem RV.agg_form {β:Bm} {S:Nat → Prop} {w:World} {l:List G} {v:Value} (h:RV β S w (.agg l) v):∃ us:Array Value,v = .agg us ∧ us.size = l.length ∧ (∀ (i:Nat) (u:Value),us[i]? = some u → u.oneCell' = true) ∧ (∀ (i:Nat) (g:G) (u:Value),l[i]? = some g → us[i]? = some u → RV β S w g u):=by
 cases h with
 | imm _ _ h =>
  cases h with
  | agg _ us hl h1 h => exact ⟨us,rfl,hl,h1,fun i g u a b => .imm _ _ (h i g u a b)⟩
 | agg _ us hl h1 h => exact ⟨us,rfl,hl,h1,h⟩
theorem glen_run {β:Bm} {S:Nat → Prop} {w:World} {x:G} {v:Value} {n:Int} (hx:RV β S w x v) (hg:glen x = some n) {t e:TypeId} (ht:P.underlying t = some (.slice e)) (ty:TypeId):(Builtin.len_ #[t] ty #[v]).run P w = .ok (.int .i64 n) w:=by
 cases x with
 | sl l m => simp [glen] at hg; subst hg; obtain ⟨a,cap,us,rfl,_⟩:=hx.sl_cells; simp [Builtin.len_,goInt,run_underlying ht]
 | rsl i o m =>
  simp [glen] at hg; subst hg
  rcases hx.rsl_form with ⟨_,rfl,rfl⟩ | ⟨b,C,o',cap,_,rfl,_⟩ <;> simp [Builtin.len_,goInt,run_underlying ht]
 | lit u =>
  cases u with
  | slice a k c => simp [glen] at hg; subst hg; rw [hx.lit_eq]; simp [Builtin.len_,goInt,run_underlying ht]
  | _ => simp [glen] at hg
 | _ => simp [glen] at hg
theorem gbool_eq {x:G} {b:Bool} (h:gbool x = some b):x = .lit (.bool b):=by
 cases x with
 | lit v =>
  cases v with
  | bool c => simp [gbool] at h; rw [h]
  | _ => simp [gbool] at h
 | _ => simp [gbool] at h

theorem evVal_run {cx:Cx} {st:St} {a:Act} {w:World} {β:Bm} (h:RelB P cx st a w β) {o:Oper} {g:G} (he:evVal P (gev st) st.σ o = some g):∃ v,(execOp a.eval o).run P w = .ok (.value v) w ∧ RV β (Av cx.S0 β st.σ) w g v:=by
 obtain ⟨dst,op,type,pos,after,guard⟩:=o
 cases op
 case move x => simp only [evVal,Option.some.injEq] at he; subst he; exact ⟨_,by simp [execOp],h.ev x⟩
 case assign x => simp only [evVal,Option.some.injEq] at he; subst he; exact ⟨_,by simp [execOp],h.ev x⟩
 case pick c x y =>
  simp only [evVal,Option.map_eq_some_iff] at he
  obtain ⟨t,ht,rfl⟩:=he
  have hc:=h.ev c
  rw [gbool_eq ht] at hc
  refine ⟨if t then a.eval x else a.eval y,by simp [execOp,hc.lit_eq,asBool],?_⟩
  cases t
  ·exact h.ev y
  ·exact h.ev x
 case load t x =>
  obtain ⟨u,hu,hr⟩:=gload_run h (h.ev x) he
  exact ⟨u,by simp [execOp,hu],hr⟩
 case nilCheck x =>
  have hx:=h.ev x
  simp only [evVal] at he
  split at he
  ·rename_i i o hg
   cases he
   rw [hg] at hx
   obtain ⟨b,C,_,hv⟩:=hx.ref_addr
   exact ⟨_,by simp only [execOp,hv]; rfl,by rw [← hv]; exact hx⟩
  ·rename_i l o hg
   cases he
   rw [hg] at hx
   obtain ⟨b,off,us,hv,_⟩:=hx.ptr_cells
   exact ⟨_,by simp only [execOp,hv]; rfl,by rw [← hv]; exact hx⟩
  ·rename_i f x' y' hg
   cases he
   rw [hg] at hx
   obtain ⟨fs,cs,hv,_⟩:=hx.clo_form
   exact ⟨_,by simp only [execOp,hv]; rfl,by rw [← hv]; exact hx⟩
  ·cases he
 case makeFunc fn f c =>
  simp only [evVal,Option.some.injEq] at he
  subst he
  refine ⟨.func fn (f.map a.eval) (c.map a.eval),by simp [execOp,Instr.makeFunc],.clo _ _ _ _ _ (by simp) (by simp) (fun i g u hg hu => ?_) (fun i g u hg hu => ?_)⟩ <;>
   (
    simp [Array.getElem?_map] at hg hu
    obtain ⟨x,hx,rfl⟩:=hg
    obtain ⟨y,hy,rfl⟩:=hu
    rw [hx] at hy; cases hy
    exact h.ev _)
 case extract x k =>
  have hx:=h.ev x
  simp only [evVal] at he
  split at he
  ·rename_i l hg
   rw [hg] at hx
   obtain ⟨us,hv,hl,hr⟩:=hx.tup_form
   have hk:=(List.getElem?_eq_some_iff.1 he).1
   have hu:us[k]? = some (us[k]'(by omega)):=by simp [show k < us.size by omega]
   exact ⟨us[k]'(by omega),by simp [execOp,hv,Instr.extract,hu],hr _ _ _ he hu⟩
  ·cases he
 case makeInterface t x =>
  simp only [evVal,Option.bind_eq_some_iff] at he
  obtain ⟨d,hd,he⟩:=he
  refine ⟨.iface t (a.eval x),?_,?_⟩
  ·simp only [execOp,Instr.makeInterface,Sem.run_bind,run_underlying hd,Result.andThen_ok]
   cases d <;> simp at he ⊢
  ·cases d <;> simp at he <;> (subst he; exact .ifc _ _ _ (h.ev x))
 case fieldAddr t x k =>
  simp only [evVal,Option.bind_eq_some_iff] at he
  obtain ⟨⟨off,ft⟩,hf,n,hn,he⟩:=he
  split at he
  ·cases he
  rename_i hn0
  obtain ⟨fs,f,hd,hfk,rfl,rfl⟩:=tfield_spec hf
  obtain ⟨ad,hv,hr⟩:=gaddr_run (h.ev x) he
  refine ⟨_,?_,hr⟩
  simp [execOp,Instr.fieldAt,run_underlying hd,hfk,hv,Instr.sureAddr,fieldPlace,run_sizeOf hn,hn0]
 case field t x k =>
  have hx:=h.ev x
  simp only [evVal] at he
  split at he
  ·rename_i l hg
   rw [hg] at hx
   rw [Option.bind_eq_some_iff] at he
   obtain ⟨⟨off,ft⟩,hf,he⟩:=he
   obtain ⟨fs,f,hd,hfk,rfl,rfl⟩:=tfield_spec hf
   obtain ⟨us,hv,hl,h1,hr⟩:=hx.agg_form
   obtain ⟨u,hu,hru⟩:=gpart_part hl h1 hr he
   exact ⟨u,by simp [execOp,Instr.field,run_underlying hd,hfk,hv,asAgg,hu],hru⟩
  ·cases he
 case indexAddr t x i =>
  simp only [evVal,Option.bind_eq_some_iff] at he
  obtain ⟨k,hk,he⟩:=he
  obtain ⟨ik,hi⟩:=gint_run (h.ev i) hk
  obtain ⟨u,hu,hr⟩:=gindex_run (k:=ik) (h.ev x) he
  exact ⟨u,by simp [execOp,hi,hu],hr⟩
 case index t x i =>
  have hx:=h.ev x
  simp only [evVal] at he
  split at he
  ·rename_i l hg
   rw [hg] at hx
   simp only [Option.bind_eq_some_iff] at he
   obtain ⟨⟨n,e⟩,ha,k,hk,s,hs,he⟩:=he
   have ht:=tarr_spec ha
   split at he
   ·rename_i hb
    obtain ⟨us,hv,hl,h1,hr⟩:=hx.agg_form
    obtain ⟨ik,hi⟩:=gint_run (h.ev i) hk
    obtain ⟨u,hu,hru⟩:=gpart_part hl h1 hr he
    exact ⟨u,by simp [execOp,Instr.index,asIntOf,hi,run_underlying ht,hv,hb.1,hb.2,run_sizeOf hs,hu],hru⟩
   ·cases he
  ·exact gplain_run h (by simp) he
 case slice t x lo hi mx =>
  have hx:=h.ev x
  cases mx with
  | some _ => simp [evVal] at he
  | none =>
   simp only [evVal] at he
   split at he
   ·exact gplain_run h (by simp) he
   ·simp only [Option.bind_eq_some_iff] at he
    obtain ⟨al,hal,bl,hbl,he⟩:=he
    have b1:=optInt_run (β:=β) (S:=Av cx.S0 β st.σ) (w:=w) (x:=lo.map (gev st)) (v:=lo.map a.eval) (fun g hg => by
     cases lo with
     | none => cases hg
     | some y => simp at hg; subst hg; exact ⟨_,rfl,h.ev y⟩) (fun hn => by cases lo <;> simp_all) hal
    have b2:=optInt_run (β:=β) (S:=Av cx.S0 β st.σ) (w:=w) (x:=hi.map (gev st)) (v:=hi.map a.eval) (fun g hg => by
     cases hi with
     | none => cases hg
     | some y => simp at hg; subst hg; exact ⟨_,rfl,h.ev y⟩) (fun hn => by cases hi <;> simp_all) hbl
    obtain ⟨u,hu,hr⟩:=gslice_run hx b1 b2 he
    exact ⟨u,by simp [execOp,hu],hr⟩
 case call c =>
  obtain ⟨callee,args,ats⟩:=c
  cases callee with
  | builtin b =>
   cases b
   case len =>
    simp only [evVal] at he
    split at he
    ·rename_i x t hx hat
     split at he
     ·rename_i hsome
      obtain ⟨e,hte⟩:=Option.isSome_iff_exists.1 hsome
      simp only [Option.map_eq_some_iff] at he
      obtain ⟨n,hn,rfl⟩:=he
      have hargs:args = #[x]:=by rw [← Array.toList_inj]; simpa using hx
      have hats:ats = #[t]:=by rw [← Array.toList_inj]; simpa using hat
      subst hargs; subst hats
      refine ⟨.int .i64 n,?_,.imm _ _ (.lit _)⟩
      simp [execOp,resolve,invoke,builtin,glen_run (h.ev x) hn (telem_spec hte)]
     ·exact gplain_run h (by simp) he
    ·cases he
   case max => exact gplain_run h (by simp) he
   case min => exact gplain_run h (by simp) he
   all_goals simp [evVal] at he
  | _ => simp [evVal] at he
 case binOp => exact gplain_run h (by simp) he
 case unOp => exact gplain_run h (by simp) he
 case convert => exact gplain_run h (by simp) he
 all_goals simp [evVal] at he

theorem gs_val {o:Oper} {st:St} {g:G} (hd:∀ d,o.dst = some d → d < st.n) (he:evVal P (gev st) st.σ o = some g):GS P o st (st.put o.dst g):=by
 intro cx a w K R ⟨β,h⟩ hK
 obtain ⟨v,hv,hr⟩:=evVal_run h he
 refine h.loose.oper (fun c hc => by simp [evVal,hc] at he) ?_
 unfold Oper.wp
 rw [hv]
 exact hK _ _ ⟨β,h.put o.dst hd hr⟩
end
end
end Go.Proofs.YtpehhhbmobmedaaGreatDoor
