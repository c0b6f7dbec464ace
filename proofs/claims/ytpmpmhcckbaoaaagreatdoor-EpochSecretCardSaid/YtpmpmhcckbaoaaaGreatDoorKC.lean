/- Tables of calls in place, with what they leave: for runs in pieces. -/
import Derived.Test.YtpmpmhcckbaoaaaGreatDoorES
namespace Go.Proofs.YtpmpmhcckbaoaaaGreatDoor
open Go.RowKit
set_option linter.unusedVariables false
section
variable {P : Program}
def band (a b : Bool) : Bool := bif a then b else false
theorem band_spec {a b : Bool} (h : band a b = true) : a = true ∧ b = true := by
  cases a with
  | true => exact ⟨rfl, h⟩
  | false => cases h
def vEqX (a b : Value) : Bool := match a with
  | .pointer none => (match b with
    | .pointer none => true
    | _ => false)
  | .map none => (match b with
    | .map none => true
    | _ => false)
  | .nilFunc => (match b with
    | .nilFunc => true
    | _ => false)
  | .nilIface => (match b with
    | .nilIface => true
    | _ => false)
  | .agg cs => (match b with
    | .agg ds => all2 vEq cs.toList ds.toList
    | _ => false)
  | a => vEq a b
theorem vEqX_spec {a b : Value} (h : vEqX a b = true) : a = b := by
  unfold vEqX at h
  split at h
  · split at h
    · rfl
    · cases h
  · split at h
    · rfl
    · cases h
  · split at h
    · rfl
    · cases h
  · split at h
    · rfl
    · cases h
  · rename_i cs
    split at h
    · rename_i ds
      have := all2_spec (fun _ _ => vEq_spec) h
      rw [Array.toList_inj.1 this]
    · cases h
  · exact vEq_spec h
def fnEq (a b : Fn) : Bool := match a with
  | .func f => (match b with
    | .func g => Nat.beq f g
    | _ => false)
  | _ => false
theorem fnEq_spec {a b : Fn} (h : fnEq a b = true) : a = b := by
  unfold fnEq at h
  split at h
  · split at h
    · rw [Nat.eq_of_beq_eq_true h]
    · cases h
  · cases h
def gEqX : Nat → G → G → Bool
  | 0, _, _ => false
  | k + 1, a, b => match a with
    | .lit v => (match b with
      | .lit u => vEqX v u
      | _ => false)
    | .agg l => (match b with
      | .agg m => all2 (gEqX k) l m
      | _ => false)
    | .tup l => (match b with
      | .tup m => all2 (gEqX k) l m
      | _ => false)
    | .sl l n => (match b with
      | .sl m n' => band (Nat.beq n n') (all2 (gEqX k) l m)
      | _ => false)
    | .ptr l n => (match b with
      | .ptr m n' => band (Nat.beq n n') (all2 (gEqX k) l m)
      | _ => false)
    | .clo f x y => (match b with
      | .clo f' x' y' => band (fnEq f f') (band (all2 (gEqX k) x x') (all2 (gEqX k) y y'))
      | _ => false)
    | .ifc t g => (match b with
      | .ifc t' g' => band (Nat.beq t t') (gEqX k g g')
      | _ => false)
    | .ref i o => (match b with
      | .ref i' o' => band (Nat.beq i i') (Nat.beq o o')
      | _ => false)
    | .rsl i o n => (match b with
      | .rsl i' o' n' => band (Nat.beq i i') (band (Nat.beq o o') (Nat.beq n n'))
      | _ => false)
    | .mref i => (match b with
      | .mref i' => Nat.beq i i'
      | _ => false)
    | .yld i => (match b with
      | .yld i' => Nat.beq i i'
      | _ => false)
    | .junk => (match b with
      | .junk => true
      | _ => false)
theorem gEqX_spec : ∀ (k : Nat) (a b : G), gEqX k a b = true → a = b
  | 0, a, b, h => by cases h
  | k + 1, a, b, h => by
    unfold gEqX at h
    split at h
    · split at h
      · rw [vEqX_spec h]
      · cases h
    · split at h
      · rw [all2_spec (gEqX_spec k) h]
      · cases h
    · split at h
      · rw [all2_spec (gEqX_spec k) h]
      · cases h
    · split at h
      · obtain ⟨h1, h2⟩ := band_spec h
        rw [Nat.eq_of_beq_eq_true h1, all2_spec (gEqX_spec k) h2]
      · cases h
    · split at h
      · obtain ⟨h1, h2⟩ := band_spec h
        rw [Nat.eq_of_beq_eq_true h1, all2_spec (gEqX_spec k) h2]
      · cases h
    · split at h
      · obtain ⟨h1, h2⟩ := band_spec h
        obtain ⟨h2, h3⟩ := band_spec h2
        rw [fnEq_spec h1, all2_spec (gEqX_spec k) h2, all2_spec (gEqX_spec k) h3]
      · cases h
    · split at h
      · obtain ⟨h1, h2⟩ := band_spec h
        rw [Nat.eq_of_beq_eq_true h1, gEqX_spec k _ _ h2]
      · cases h
    · split at h
      · obtain ⟨h1, h2⟩ := band_spec h
        rw [Nat.eq_of_beq_eq_true h1, Nat.eq_of_beq_eq_true h2]
      · cases h
    · split at h
      · obtain ⟨h1, h2⟩ := band_spec h
        obtain ⟨h2, h3⟩ := band_spec h2
        rw [Nat.eq_of_beq_eq_true h1, Nat.eq_of_beq_eq_true h2, Nat.eq_of_beq_eq_true h3]
      · cases h
    · split at h
      · rw [Nat.eq_of_beq_eq_true h]
      · cases h
    · split at h
      · rw [Nat.eq_of_beq_eq_true h]
      · cases h
    · split at h
      · rfl
      · cases h
def enEq (k : Nat) (a b : Value × G × Nat) : Bool := band (vEqX a.1 b.1) (band (gEqX k a.2.1 b.2.1) (Nat.beq a.2.2 b.2.2))
theorem enEq_spec {k : Nat} {a b : Value × G × Nat} (h : enEq k a b = true) : a = b := by
  obtain ⟨h1, h2⟩ := band_spec h
  obtain ⟨h2, h3⟩ := band_spec h2
  exact Prod.ext (vEqX_spec h1) (Prod.ext (gEqX_spec k _ _ h2) (Nat.eq_of_beq_eq_true h3))
def xobEq (k : Nat) (a b : Option Xob) : Bool := match a with
  | none => (match b with
    | none => true
    | _ => false)
  | some (.map es n) => (match b with
    | some (.map es' n') => band (Nat.beq n n') (all2 (enEq k) es es')
    | _ => false)
  | some .resv => (match b with
    | some .resv => true
    | _ => false)
  | _ => false
theorem xobEq_spec {k : Nat} {a b : Option Xob} (h : xobEq k a b = true) : a = b := by
  unfold xobEq at h
  split at h
  · split at h
    · rfl
    · cases h
  · split at h
    · obtain ⟨h1, h2⟩ := band_spec h
      rw [Nat.eq_of_beq_eq_true h1, all2_spec (fun _ _ => enEq_spec) h2]
    · cases h
  · split at h
    · rfl
    · cases h
  · cases h
def obEq (k : Nat) (a b : Option Ob) : Bool := match a with
  | none => (match b with
    | none => true
    | _ => false)
  | some ⟨t, l, x⟩ => (match b with
    | some ⟨t', l', x'⟩ => band (Nat.beq t t') (band (all2 (gEqX k) l l') (xobEq k x x'))
    | _ => false)
theorem obEq_spec {k : Nat} {a b : Option Ob} (h : obEq k a b = true) : a = b := by
  unfold obEq at h
  split at h
  · split at h
    · rfl
    · cases h
  · split at h
    · obtain ⟨h1, h2⟩ := band_spec h
      obtain ⟨h2, h3⟩ := band_spec h2
      rw [Nat.eq_of_beq_eq_true h1, all2_spec (gEqX_spec k) h2, xobEq_spec h3]
    · cases h
def slotEq (k : Nat) (a b : Nat × Option Ob) : Bool := band (Nat.beq a.1 b.1) (obEq k a.2 b.2)
theorem slotEq_spec {k : Nat} {a b : Nat × Option Ob} (h : slotEq k a b = true) : a = b := by
  obtain ⟨h1, h2⟩ := band_spec h
  exact Prod.ext (Nat.eq_of_beq_eq_true h1) (obEq_spec h2)
def glEq (k : Nat) (a b : Nat × List G) : Bool := band (Nat.beq a.1 b.1) (all2 (gEqX k) a.2 b.2)
theorem glEq_spec {k : Nat} {a b : Nat × List G} (h : glEq k a b = true) : a = b := by
  obtain ⟨h1, h2⟩ := band_spec h
  exact Prod.ext (Nat.eq_of_beq_eq_true h1) (all2_spec (gEqX_spec k) h2)
def xrEq (k : Nat) (a b : XR) : Bool := band (Nat.beq a.2.2.1 b.2.2.1) (band (Nat.beq a.2.2.2 b.2.2.2) (band (gEqX k a.1 b.1) (all2 (slotEq k) a.2.1 b.2.1)))
theorem xrEq_spec {k : Nat} {a b : XR} (h : xrEq k a b = true) : a = b := by
  obtain ⟨h1, h2⟩ := band_spec h
  obtain ⟨h2, h3⟩ := band_spec h2
  obtain ⟨h3, h4⟩ := band_spec h3
  exact Prod.ext (gEqX_spec k _ _ h3) (Prod.ext (all2_spec (fun _ _ => slotEq_spec) h4) (Prod.ext (Nat.eq_of_beq_eq_true h1) (Nat.eq_of_beq_eq_true h2)))

/-- A call in place: function, arguments, store, numbers used; what it leaves. -/
structure KE where
  f : FuncId
  gs : List G
  σ : Sto
  c : Nat
  l : List XR
def kcTab (gl0 : List (Nat × List G)) : List KE → FuncId → List G → List (Nat × List G) → Sto → Nat → Option (List XR)
  | [], _, _, _, _, _ => none
  | q :: r, fid, gs, gl, σ, c => bif band (Nat.beq q.c c) (band (Nat.beq q.f fid) (band (all2 (gEqX 16) q.gs gs) (band (all2 (slotEq 16) q.σ σ) (all2 (glEq 16) gl0 gl)))) then some q.l else kcTab gl0 r fid gs gl σ c
noncomputable def chkK (P : Program) (E : XEnv) (gl0 : List (Nat × List G)) (k : Nat) (q : KE) : Bool := match xcallR P (xcode P E k) q.f q.gs gl0 q.σ q.c with
  | some l => all2 (xrEq 16) l q.l
  | none => false
def natsEq (a b : List Nat) : Bool := all2 Nat.beq a b
theorem natsEq_spec {a b : List Nat} (h : natsEq a b = true) : a = b := all2_spec (fun _ _ h => Nat.eq_of_beq_eq_true h) h
/-- A call in a region that draws: what it sees of the store, and what it leaves. -/
structure KF where
  f : FuncId
  gs : List G
  R : List Nat
  σ : Sto
  c : Nat
  g : G
  U : Sto
  c' : Nat
def KF.x (q : KF) : XF := (q.g, q.U, q.R, true, q.c')
def kfTab (gl0 : List (Nat × List G)) : List KF → FuncId → List G → List (Nat × List G) → List Nat → Sto → Nat → Option XF
  | [], _, _, _, _, _, _ => none
  | q :: r, fid, gs, gl, R, σ, c => bif band (Nat.beq q.c c) (band (Nat.beq q.f fid) (band (all2 (gEqX 16) q.gs gs) (band (natsEq q.R R) (band (all2 (slotEq 16) q.σ σ) (all2 (glEq 16) gl0 gl))))) then some q.x else kfTab gl0 r fid gs gl R σ c
def xfEq (k : Nat) (x : XF) (q : KF) : Bool := band (Nat.beq x.2.2.2.2 q.c') (band (gEqX k x.1 q.g) (band (all2 (slotEq k) x.2.1 q.U) (band (natsEq x.2.2.1 q.R) x.2.2.2.1)))
theorem xfEq_spec {k : Nat} {x : XF} {q : KF} (h : xfEq k x q = true) : x = q.x := by
  obtain ⟨h1, h2⟩ := band_spec h
  obtain ⟨h2, h3⟩ := band_spec h2
  obtain ⟨h3, h4⟩ := band_spec h3
  obtain ⟨h4, h5⟩ := band_spec h4
  exact Prod.ext (gEqX_spec k _ _ h2) (Prod.ext (all2_spec (fun _ _ => slotEq_spec) h3) (Prod.ext (natsEq_spec h4) (Prod.ext h5 (Nat.eq_of_beq_eq_true h1))))
noncomputable def chkF (P : Program) (E : XEnv) (gl0 : List (Nat × List G)) (k : Nat) (q : KF) : Bool := match xcallFR P (xcode P E k) q.f q.gs gl0 q.R q.σ q.c with
  | some x => xfEq 16 x q
  | none => false
def KeOk (P : Program) (gl0 : List (Nat × List G)) (q : KE) : Prop := ∃ run, RunOk P run ∧ xcallR P run q.f q.gs gl0 q.σ q.c = some q.l
def KfOk (P : Program) (gl0 : List (Nat × List G)) (q : KF) : Prop := ∃ run, RunOk P run ∧ xcallFR P run q.f q.gs gl0 q.R q.σ q.c = some q.x
/-- What is known, as an environment. -/
def xenvK (pf : FuncId → Bool) (tp : XPure) (gl0 : List (Nat × List G)) (T : List KE) (U : List KF) : XEnv := { pf := pf, tp := tp, kc := kcTab gl0 T, kcF := kfTab gl0 U }
theorem xenvK_ok {pf : FuncId → Bool} {tp : XPure} {gl0 : List (Nat × List G)} {T : List KE} {U : List KF} (h : ∀ q ∈ T, KeOk P gl0 q) (h' : ∀ q ∈ U, KfOk P gl0 q) : KcOk P (xenvK pf tp gl0 T U) := by
  refine ⟨fun fid gs gl σ c l hl => ?_, fun fid gs gl R σ c x hl => ?_⟩
  · replace hl : kcTab gl0 T fid gs gl σ c = some l := hl
    clear h'
    induction T with
    | nil => cases hl
    | cons q r ih =>
      unfold kcTab at hl
      cases hc : band (Nat.beq q.c c) (band (Nat.beq q.f fid) (band (all2 (gEqX 16) q.gs gs) (band (all2 (slotEq 16) q.σ σ) (all2 (glEq 16) gl0 gl)))) with
      | true =>
        rw [hc] at hl
        cases hl
        obtain ⟨h1, h2⟩ := band_spec hc
        obtain ⟨h2, h3⟩ := band_spec h2
        obtain ⟨h3, h4⟩ := band_spec h3
        obtain ⟨h4, h5⟩ := band_spec h4
        rw [← Nat.eq_of_beq_eq_true h1, ← Nat.eq_of_beq_eq_true h2, ← all2_spec (gEqX_spec 16) h3, ← all2_spec (fun _ _ => slotEq_spec) h4, ← all2_spec (fun _ _ => glEq_spec) h5]
        exact h q (by simp)
      | false =>
        rw [hc] at hl
        exact ih (fun q' hq => h q' (by simp [hq])) hl
  · replace hl : kfTab gl0 U fid gs gl R σ c = some x := hl
    clear h
    induction U with
    | nil => cases hl
    | cons q r ih =>
      unfold kfTab at hl
      cases hc : band (Nat.beq q.c c) (band (Nat.beq q.f fid) (band (all2 (gEqX 16) q.gs gs) (band (natsEq q.R R) (band (all2 (slotEq 16) q.σ σ) (all2 (glEq 16) gl0 gl))))) with
      | true =>
        rw [hc] at hl
        cases hl
        obtain ⟨h1, h2⟩ := band_spec hc
        obtain ⟨h2, h3⟩ := band_spec h2
        obtain ⟨h3, h4⟩ := band_spec h3
        obtain ⟨h4, h5⟩ := band_spec h4
        obtain ⟨h5, h6⟩ := band_spec h5
        rw [← Nat.eq_of_beq_eq_true h1, ← Nat.eq_of_beq_eq_true h2, ← all2_spec (gEqX_spec 16) h3, ← natsEq_spec h4, ← all2_spec (fun _ _ => slotEq_spec) h5, ← all2_spec (fun _ _ => glEq_spec) h6]
        exact h' q (by simp)
      | false =>
        rw [hc] at hl
        exact ih (fun q' hq => h' q' (by simp [hq])) hl
theorem chkK_ok (hm : P.follows .mixedOrders = true) {E : XEnv} (ht : PureOk P E.tp) (hk : KcOk P E) {gl0 : List (Nat × List G)} {k : Nat} {q : KE} (h : chkK P E gl0 k q = true) : KeOk P gl0 q := by
  unfold chkK at h
  split at h
  · rename_i l hl
    have e := all2_spec (f := xrEq 16) (fun _ _ => xrEq_spec) h
    exact ⟨_, (xcode_ok hm ht hk k).toRunOk, by rw [← e]; exact hl⟩
  · cases h
theorem chkF_ok (hm : P.follows .mixedOrders = true) {E : XEnv} (ht : PureOk P E.tp) (hk : KcOk P E) {gl0 : List (Nat × List G)} {k : Nat} {q : KF} (h : chkF P E gl0 k q = true) : KfOk P gl0 q := by
  unfold chkF at h
  split at h
  · rename_i x hx
    exact ⟨_, (xcode_ok hm ht hk k).toRunOk, by rw [hx, xfEq_spec h]⟩
  · cases h
end
end Go.Proofs.YtpmpmhcckbaoaaaGreatDoor
