/- A machine of values over the model: comparing with nil. -/
import Derived.Test.YtfnglmepfjaimaaGreatDoorGS
import Derived.Laws.Cover3
namespace Go.Proofs.YtfnglmepfjaimaaGreatDoor
open Go.RowKit
set_option linter.unusedVariables false
section
variable {P : Program}
def nilSl : Value → Bool
  | .slice none _ _ => true
  | _ => false
def nilPt : Value → Bool
  | .pointer none => true
  | _ => false
def nilFn : Value → Bool
  | .nilFunc => true
  | _ => false
theorem nilSl_spec {v : Value} (h : nilSl v = true) : ∃ n c, v = .slice none n c := by
  unfold nilSl at h
  split at h
  · exact ⟨_, _, rfl⟩
  · cases h
theorem nilPt_spec {v : Value} (h : nilPt v = true) : v = .pointer none := by
  unfold nilPt at h
  split at h
  · rfl
  · cases h
theorem nilFn_spec {v : Value} (h : nilFn v = true) : v = .nilFunc := by
  unfold nilFn at h
  split at h
  · rfl
  · cases h
def tsl (P : Program) (t : TypeId) : Bool := match P.underlying t with
  | some (.slice _) => true
  | _ => false
def tpt (P : Program) (t : TypeId) : Bool := match P.underlying t with
  | some (.pointer _) => true
  | _ => false
def tfn (P : Program) (t : TypeId) : Bool := match P.underlying t with
  | some (.func ..) => true
  | _ => false
theorem tsl_spec {t : TypeId} (h : tsl P t = true) : ∃ e, P.underlying t = some (.slice e) := by
  unfold tsl at h
  split at h
  · rename_i e hu; exact ⟨e, hu⟩
  · cases h
theorem tpt_spec {t : TypeId} (h : tpt P t = true) : ∃ e, P.underlying t = some (.pointer e) := by
  unfold tpt at h
  split at h
  · rename_i e hu; exact ⟨e, hu⟩
  · cases h
theorem tfn_spec {t : TypeId} (h : tfn P t = true) : ∃ a b c, P.underlying t = some (.func a b c) := by
  unfold tfn at h
  split at h
  · rename_i a b c hu; exact ⟨a, b, c, hu⟩
  · cases h
/-- What is surely not nil, of what type. -/
def gsome (P : Program) (t : TypeId) (nil : Value) : G → Bool
  | .rsl _ _ (_ + 1) => nilSl nil && tsl P t
  | .sl (_ :: _) _ => nilSl nil && tsl P t
  | .ref _ _ => nilPt nil && tpt P t
  | .ptr _ _ => nilPt nil && tpt P t
  | .clo _ _ _ => nilFn nil && tfn P t
  | _ => false
theorem gsome_run {β : Bm} {S : Nat → Prop} {w : World} {t : TypeId} {nil v : Value} {g : G} (h : gsome P t nil g = true) (hv : RV β S w g v) : (∀ d W, (Op.equalIn (d + 1) t v nil).run P W = .ok false W) ∧ (∀ op x y W, (eqGuard op t x y v nil).run P W = .ok () W) ∧ ∀ W, (binOp .eql t v nil).run P W = .ok (.bool false) W ∧ (binOp .neq t v nil).run P W = .ok (.bool true) W := by
  have fin : (∀ k n, v ≠ .int k n) → (∀ k n, v ≠ .float k n) → (∀ k a b, v ≠ .complex k a b) → (∀ s, v ≠ .string s) → (∀ d W, (Op.equalIn (d + 1) t v nil).run P W = .ok false W) → ∀ W, (binOp .eql t v nil).run P W = .ok (.bool false) W ∧ (binOp .neq t v nil).run P W = .ok (.bool true) W := by
    intro n1 n2 n3 n4 he W
    have he' : (Op.equal t v nil).run P W = .ok false W := he 9999 W
    constructor
    · unfold binOp
      split <;> simp_all
    · unfold binOp
      split <;> simp_all
  have sl : ∀ (x : Addr) (n c : Nat), v = .slice (some x) n c → nilSl nil = true → tsl P t = true → (∀ d W, (Op.equalIn (d + 1) t v nil).run P W = .ok false W) ∧ (∀ op x y W, (eqGuard op t x y v nil).run P W = .ok () W) ∧ ∀ W, (binOp .eql t v nil).run P W = .ok (.bool false) W ∧ (binOp .neq t v nil).run P W = .ok (.bool true) W := by
    rintro x n c rfl h1 h2
    obtain ⟨n', c', rfl⟩ := nilSl_spec h1
    obtain ⟨e, hu⟩ := tsl_spec h2
    have he : ∀ d W, (Op.equalIn (d + 1) t (.slice (some x) n c) (.slice none n' c')).run P W = .ok false W := fun d W => by simp [Op.equalIn, run_underlying hu]
    exact ⟨he, fun op a b W => by unfold eqGuard; split <;> simp, fin (by simp) (by simp) (by simp) (by simp) he⟩
  have pt : ∀ (x : Addr), v = .pointer (some x) → nilPt nil = true → tpt P t = true → (∀ d W, (Op.equalIn (d + 1) t v nil).run P W = .ok false W) ∧ (∀ op x y W, (eqGuard op t x y v nil).run P W = .ok () W) ∧ ∀ W, (binOp .eql t v nil).run P W = .ok (.bool false) W ∧ (binOp .neq t v nil).run P W = .ok (.bool true) W := by
    rintro x rfl h1 h2
    obtain rfl := nilPt_spec h1
    obtain ⟨e, hu⟩ := tpt_spec h2
    have he : ∀ d W, (Op.equalIn (d + 1) t (.pointer (some x)) (.pointer none)).run P W = .ok false W := fun d W => by simp [Op.equalIn, run_underlying hu]
    exact ⟨he, fun op a b W => by unfold eqGuard; split <;> simp, fin (by simp) (by simp) (by simp) (by simp) he⟩
  unfold gsome at h
  split at h
  · rename_i i o n
    simp only [Bool.and_eq_true] at h
    rcases hv.rsl_form with ⟨hb, _, hn⟩ | ⟨b, C, o', cap, hb, rfl, _⟩
    · cases hn
    · exact sl _ _ _ rfl h.1 h.2
  · rename_i g0 l n
    simp only [Bool.and_eq_true] at h
    obtain ⟨a, cap, us, rfl, _, _, ha, _⟩ := hv.sl_cells
    obtain ⟨b, off, rfl, _⟩ := ha 0 (by simp)
    exact sl _ _ _ rfl h.1 h.2
  · simp only [Bool.and_eq_true] at h
    obtain ⟨b, C, _, rfl⟩ := hv.ref_addr
    exact pt _ rfl h.1 h.2
  · simp only [Bool.and_eq_true] at h
    obtain ⟨b, off, us, rfl, _⟩ := hv.ptr_cells
    exact pt _ rfl h.1 h.2
  · rename_i fn fst cap
    simp only [Bool.and_eq_true] at h
    obtain ⟨fs, cs, rfl, _⟩ := hv.clo_form
    obtain ⟨h1, h2⟩ := h
    obtain rfl := nilFn_spec h1
    obtain ⟨_, _, _, hu⟩ := tfn_spec h2
    have he : ∀ d W, (Op.equalIn (d + 1) t (.func fn fs cs) .nilFunc).run P W = .ok false W := fun d W => by simp [Op.equalIn, run_underlying hu]
    exact ⟨he, fun op a b W => by unfold eqGuard; split <;> simp, fin (by simp) (by simp) (by simp) (by simp) he⟩
  · cases h
/-- 'x == nil', 'x != nil'. -/
def gnilcmp (P : Program) (op : BinOp) (t : TypeId) (gx gy : G) : Option G := match gy with
  | .lit nil => bif gsome P t nil gx then (match op with
    | .eql => some (.lit (.bool false))
    | .neq => some (.lit (.bool true))
    | _ => none) else none
  | _ => none
theorem gs_nilcmp {o : Oper} {st : St} {op : BinOp} {t t' : TypeId} {x y : Operand} {g : G} (ho : o.op = .binOp op t x y t') (hd : ∀ d, o.dst = some d → d < st.n) (h : gnilcmp P op t (gev st x) (gev st y) = some g) : GS P o st (st.put o.dst g) := by
  intro cx a w K R ⟨β, r⟩ hK
  unfold gnilcmp at h
  split at h
  · rename_i nil hy
    cases hs : gsome P t nil (gev st x) with
    | false => rw [hs] at h; cases h
    | true =>
      rw [hs] at h
      obtain ⟨_, h2, h3⟩ := gsome_run hs (r.ev x)
      have vy : a.eval y = nil := by have := r.ev y; rw [hy] at this; exact this.lit_eq
      have hrun : ∃ b, g = .lit (.bool b) ∧ (execOp a.eval o).run P w = .ok (.value (.bool b)) w := by
        unfold execOp
        simp only [ho, vy]
        cases op with
        | eql => cases h; exact ⟨_, rfl, by simp [Sem.run_bind, h2, (h3 w).1]⟩
        | neq => cases h; exact ⟨_, rfl, by simp [Sem.run_bind, h2, (h3 w).2]⟩
        | _ => cases h
      obtain ⟨b, rfl, hr⟩ := hrun
      refine r.loose.oper (fun c hc => by rw [ho] at hc; cases hc) ?_
      unfold Oper.wp
      rw [hr]
      exact hK _ _ ⟨β, r.put o.dst hd (.imm _ _ (.lit _))⟩
  · cases h
end
end Go.Proofs.YtfnglmepfjaimaaGreatDoor
