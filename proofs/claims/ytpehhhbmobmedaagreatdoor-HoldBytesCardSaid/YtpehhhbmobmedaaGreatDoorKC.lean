/- Tables of pure calls, for the runner. -/
import Derived.Test.YtpehhhbmobmedaaGreatDoorEC
namespace Go.Proofs.YtpehhhbmobmedaaGreatDoor
set_option linter.unusedVariables false
set_option linter.unusedSimpArgs false
set_option linter.unusedSectionVars false
section
open Go.RowKit
section
variable {P:Program}

/-! ### tables -/
abbrev Tab:=List (FuncId × List G × G)
def tabTp (T:Tab) (rest:XPure):XPure:=fun fid gs gl => match T with
 | [] => rest fid gs gl
 | q :: r => bif Nat.beq q.1 fid && all2 (gEq 12) q.2.1 gs then some q.2.2 else tabTp r rest fid gs gl
theorem fn_gl' {gl:List (Nat × List G)} {f:FuncId} {gs:List G} {r:G} (h:Fn' P [] f gs r):Fn' P gl f gs r:=fun w S vs hS _ hsz hvs => h w S vs hS (fun _ _ h => by cases h) hsz hvs
theorem tabTp_ok {rest:XPure} (hr:PureOk P rest):∀ {T:Tab},(∀ q ∈ T,Fn' P [] q.1 q.2.1 q.2.2 ∧ Flat q.2.2 ∧ callable P q.1 = true) → PureOk P (tabTp T rest)
 | [],_,fid,gs,gl,r,h => hr fid gs gl r h
 | q :: T,hT,fid,gs,gl,r,h => by
  unfold tabTp at h
  cases hc:(Nat.beq q.1 fid && all2 (gEq 12) q.2.1 gs) with
  | true =>
   rw [hc] at h
   simp only [Bool.and_eq_true] at hc
   cases h
   have e1:=Nat.eq_of_beq_eq_true hc.1
   have e2:=all2_spec (gEq_spec 12) hc.2
   subst e1; subst e2
   obtain ⟨a,b,c⟩:=hT q (by simp)
   exact ⟨fn_gl' a,b,c⟩
  | false =>
   rw [hc] at h
   exact tabTp_ok hr (fun q' hq => hT q' (by simp [hq])) fid gs gl r h
noncomputable def chk1 (P:Program) (E:XEnv) (k:Nat) (q:FuncId × List G × G):Bool:=match xpureR P E (xcode P E k) q.1 q.2.1 [] with
 | some r => gEq 12 r q.2.2
 | none => false
theorem chk_ok (hm:P.follows .mixedOrders = true) {E:XEnv} (ht:PureOk P E.tp) (hk:KcOk P E) {k:Nat} {T:Tab} (h:T.all (chk1 P E k) = true):∀ q ∈ T,Fn' P [] q.1 q.2.1 q.2.2 ∧ Flat q.2.2 ∧ callable P q.1 = true:=fun q hq => by
 have:=List.all_eq_true.1 h q hq
 unfold chk1 at this
 split at this
 ·rename_i r hr
  rw [← gEq_spec 12 _ _ this]
  exact xpureR_ok (xcode_ok hm ht hk k).toRunOk ht _ _ _ _ hr
 ·cases this
end
end
section
open Go.RowKit
section
variable {P:Program}
structure KE where
 f:FuncId
 gs:List G
 σ:Sto
 c:Nat
 l:List XR
def kcTab (gl0:List (Nat × List G)):List KE → FuncId → List G → List (Nat × List G) → Sto → Nat → Option (List XR)
 | [],_,_,_,_,_ => none
 | q :: r,fid,gs,gl,σ,c => bif band (Nat.beq q.c c) (band (Nat.beq q.f fid) (band (all2 (gEqX 16) q.gs gs) (band (all2 (slotEq 16) q.σ σ) (all2 (glEq 16) gl0 gl)))) then some q.l else kcTab gl0 r fid gs gl σ c
noncomputable def chkK (P:Program) (E:XEnv) (gl0:List (Nat × List G)) (k:Nat) (q:KE):Bool:=match xcallR P (xcode P E k) q.f q.gs gl0 q.σ q.c with
 | some l => all2 (xrEq 16) l q.l
 | none => false
structure KF where
 f:FuncId
 gs:List G
 R:List Nat
 σ:Sto
 c:Nat
 g:G
 U:Sto
 c':Nat
def KF.x (q:KF):XF:=(q.g,q.U,q.R,true,q.c')
def kfTab (gl0:List (Nat × List G)):List KF → FuncId → List G → List (Nat × List G) → List Nat → Sto → Nat → Option XF
 | [],_,_,_,_,_,_ => none
 | q :: r,fid,gs,gl,R,σ,c => bif band (Nat.beq q.c c) (band (Nat.beq q.f fid) (band (all2 (gEqX 16) q.gs gs) (band (natsEq q.R R) (band (all2 (slotEq 16) q.σ σ) (all2 (glEq 16) gl0 gl))))) then some q.x else kfTab gl0 r fid gs gl R σ c
def xfEq (k:Nat) (x:XF) (q:KF):Bool:=band (Nat.beq x.2.2.2.2 q.c') (band (gEqX k x.1 q.g) (band (all2 (slotEq k) x.2.1 q.U) (band (natsEq x.2.2.1 q.R) x.2.2.2.1)))
theorem xfEq_spec {k:Nat} {x:XF} {q:KF} (h:xfEq k x q = true):x = q.x:=by
 obtain ⟨h1,h2⟩:=band_spec h
 obtain ⟨h2,h3⟩:=band_spec h2
 obtain ⟨h3,h4⟩:=band_spec h3
 obtain ⟨h4,h5⟩:=band_spec h4
 exact Prod.ext (gEqX_spec k _ _ h2) (Prod.ext (all2_spec (fun _ _ => slotEq_spec) h3) (Prod.ext (natsEq_spec h4) (Prod.ext h5 (Nat.eq_of_beq_eq_true h1))))
noncomputable def chkF (P:Program) (E:XEnv) (gl0:List (Nat × List G)) (k:Nat) (q:KF):Bool:=match xcallFR P (xcode P E k) q.f q.gs gl0 q.R q.σ q.c with
 | some x => xfEq 16 x q
 | none => false
def KeOk (P:Program) (gl0:List (Nat × List G)) (q:KE):Prop:=∃ run,RunOk P run ∧ xcallR P run q.f q.gs gl0 q.σ q.c = some q.l
def KfOk (P:Program) (gl0:List (Nat × List G)) (q:KF):Prop:=KfSem P q.f q.gs gl0 q.R q.σ q.c q.x
def xenvK (pf:FuncId → Bool) (tp:XPure) (gl0:List (Nat × List G)) (T:List KE) (U:List KF):XEnv:={ pf:=pf,tp:=tp,kc:=kcTab gl0 T,kcF:=kfTab gl0 U }
theorem xenvK_ok {pf:FuncId → Bool} {tp:XPure} {gl0:List (Nat × List G)} {T:List KE} {U:List KF} (h:∀ q ∈ T,KeOk P gl0 q) (h':∀ q ∈ U,KfOk P gl0 q):KcOk P (xenvK pf tp gl0 T U):=by
 refine ⟨fun fid gs gl σ c l hl => ?_,fun fid gs gl R σ c x hl => ?_⟩
 ·replace hl:kcTab gl0 T fid gs gl σ c = some l:=hl
  clear h'
  induction T with
  | nil => cases hl
  | cons q r ih =>
   unfold kcTab at hl
   cases hc:band (Nat.beq q.c c) (band (Nat.beq q.f fid) (band (all2 (gEqX 16) q.gs gs) (band (all2 (slotEq 16) q.σ σ) (all2 (glEq 16) gl0 gl)))) with
   | true =>
    rw [hc] at hl
    cases hl
    obtain ⟨h1,h2⟩:=band_spec hc
    obtain ⟨h2,h3⟩:=band_spec h2
    obtain ⟨h3,h4⟩:=band_spec h3
    obtain ⟨h4,h5⟩:=band_spec h4
    rw [← Nat.eq_of_beq_eq_true h1,← Nat.eq_of_beq_eq_true h2,← all2_spec (gEqX_spec 16) h3,← all2_spec (fun _ _ => slotEq_spec) h4,← all2_spec (fun _ _ => glEq_spec) h5]
    exact h q (by simp)
   | false =>
    rw [hc] at hl
    exact ih (fun q' hq => h q' (by simp [hq])) hl
 ·replace hl:kfTab gl0 U fid gs gl R σ c = some x:=hl
  clear h
  induction U with
  | nil => cases hl
  | cons q r ih =>
   unfold kfTab at hl
   cases hc:band (Nat.beq q.c c) (band (Nat.beq q.f fid) (band (all2 (gEqX 16) q.gs gs) (band (natsEq q.R R) (band (all2 (slotEq 16) q.σ σ) (all2 (glEq 16) gl0 gl))))) with
   | true =>
    rw [hc] at hl
    cases hl
    obtain ⟨h1,h2⟩:=band_spec hc
    obtain ⟨h2,h3⟩:=band_spec h2
    obtain ⟨h3,h4⟩:=band_spec h3
    obtain ⟨h4,h5⟩:=band_spec h4
    obtain ⟨h5,h6⟩:=band_spec h5
    rw [← Nat.eq_of_beq_eq_true h1,← Nat.eq_of_beq_eq_true h2,← all2_spec (gEqX_spec 16) h3,← natsEq_spec h4,← all2_spec (fun _ _ => slotEq_spec) h5,← all2_spec (fun _ _ => glEq_spec) h6]
    exact h' q (by simp)
   | false =>
    rw [hc] at hl
    exact ih (fun q' hq => h' q' (by simp [hq])) hl
theorem chkK_ok (hm:P.follows .mixedOrders = true) {E:XEnv} (ht:PureOk P E.tp) (hk:KcOk P E) {gl0:List (Nat × List G)} {k:Nat} {q:KE} (h:chkK P E gl0 k q = true):KeOk P gl0 q:=by
 unfold chkK at h
 split at h
 ·rename_i l hl
  have e:=all2_spec (f:=xrEq 16) (fun _ _ => xrEq_spec) h
  exact ⟨_,(xcode_ok hm ht hk k).toRunOk,by rw [← e]; exact hl⟩
 ·cases h
theorem chkF_ok (hm:P.follows .mixedOrders = true) {E:XEnv} (ht:PureOk P E.tp) (hk:KcOk P E) {gl0:List (Nat × List G)} {k:Nat} {q:KF} (h:chkF P E gl0 k q = true):KfOk P gl0 q:=by
 unfold chkF at h
 split at h
 ·rename_i x hx
  exact kfSem_run (xcode_ok hm ht hk k).toRunOk (by rw [hx,xfEq_spec h])
 ·cases h
end
end
end Go.Proofs.YtpehhhbmobmedaaGreatDoor
