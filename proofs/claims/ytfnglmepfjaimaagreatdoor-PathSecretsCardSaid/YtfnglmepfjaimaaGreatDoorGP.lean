/- A machine of values over the model, fifteenth part: bytes and strings; calls as a walk takes them. -/
import Derived.Test.YtfnglmepfjaimaaGreatDoorGN
import Derived.Lib.AppendStr
import Derived.Laws.IdiomStrings
namespace Go.Proofs.YtfnglmepfjaimaaGreatDoor
open Go.RowKit Go.Lib
set_option linter.unusedVariables false
section
variable {P : Program} {rr : Bool}

theorem run_append_string2 (w : World) (t u ty e : TypeId) (i : TypeInfo) (ht : P.underlying t = some (.slice e)) (hu : P.underlying u = some .string) (hi : P.info? e = some i) (hz : i.zero = some (.int .u8 0))
    (hsize : i.size = 1) (hby : i.bytes = 1) (v : Value) (n : Nat) (xs : List Value) (hown : w.ownsRow 0 e 1 v n xs) (s : ByteArray) (h63 : n + s.size ≤ maxLen) (hbytes : n + s.size ≤ 140737488355328) :
    ∃ v' w', (Builtin.append_ #[t, u] ty #[v, .string s]).run P w = .ok v' w' ∧ w'.ownsRow 0 e 1 v' (n + s.size) (xs ++ strCells s) ∧ w.grownBy w' v.ownBlock ∧ (v'.ownBlock = v.ownBlock ∨ v'.ownBlock = some w.heap.size) := by
  obtain ⟨v', w', hrun, ho, hg, hnil⟩ := run_append_own_string (P := P) w 0 t u ty e i ht hu hi hz hsize hby v n xs hown s h63 hbytes (Nat.zero_le _)
  refine ⟨v', w', hrun, ho, hg, ?_⟩
  have hsmall : n + s.size ≤ 9223372036854775807 := by simp only [maxLen] at h63; omega
  have hxl : xs.length = n := by simpa using hown.1
  rcases hown.2 with ⟨rfl, rfl⟩ | ⟨g, cap, cur, rfl, hbg, hgg, hnc, hcm, hcs, htake⟩
  · by_cases hm : s.size = 0
    · have := hnil.2 ⟨rfl, hm⟩
      subst this
      exact .inl rfl
    · have hr := run_append_nil_string (P := P) w t u ty e i (.int .u8 0) ht hu hi hz s (by omega) (by omega) (by rw [hby]; omega)
      rw [hrun] at hr
      injection hr with e1 e2
      subst e1
      right; rfl
  · by_cases hroom : n + s.size ≤ cap
    · have hcs' : cur.size = cap := by simpa using hcs
      have hr := run_append_room_string (P := P) w t u ty e i ht hu hi hsize g n cap cur hgg s hroom (by omega)
      rw [hrun] at hr
      injection hr with e1 e2
      subst e1
      left; rfl
    · have holds : ∀ j u, xs[j]? = some u → w.cell? ((⟨g, 0, none⟩ : Addr).add j) = some u := hown.cells (g := g) rfl
      have hr := run_append_grow_string (P := P) w t u ty e i (.int .u8 0) ht hu hi hz ⟨g, 0, none⟩ n cap xs (by rw [hsize]; simpa using hxl) holds s (by omega) (by omega) (by rw [hby]; exact growslice_fits (by omega) (by omega))
      rw [hrun] at hr
      injection hr with e1 e2
      subst e1
      right; rfl

/-- What a type is at its root: a number of a kind, a string. -/
def tint (P : Program) (t : TypeId) : Option IntKind := (P.underlying t).bind fun | .int k => some k | _ => none
def tstr (P : Program) (t : TypeId) : Bool := (P.underlying t) matches some .string
theorem tint_spec {t : TypeId} {k : IntKind} (h : tint P t = some k) : P.underlying t = some (.int k) := by
  simp only [tint, Option.bind_eq_some_iff] at h
  obtain ⟨d, hd, h⟩ := h
  cases d <;> simp at h
  subst h; exact hd
theorem tstr_spec {t : TypeId} (h : tstr P t = true) : P.underlying t = some .string := by
  unfold tstr at h
  split at h
  · assumption
  · cases h

/-- Bytes. -/
abbrev gY (b : UInt8) : G := .lit (.int .u8 (b.toNat : Int))
def gBytes (l : List UInt8) : G := .sl (l.map gY) l.length
theorem gs_appendS {o : Oper} {st : St} {t u e : TypeId} {x y : Operand} {i n : Nat} {l : List G} {s : List UInt8} (ho : o.op = .call { callee := .builtin .append, args := #[x, y], argTypes := #[t, u] }) (hd : ∀ d, o.dst = some d → d < st.n)
    (he : telem P t = some e) (hu : tstr P u = true) (hs : tsize P e = some 1) (hz : (P.info? e).bind (·.zero) = some (.int .u8 0)) (hby : (P.info? e).map (·.bytes) = some 1)
    (hx : gsrc st.σ st.c e 1 (gev st x) = some (i, n, l)) (hy : gev st y = .lit (.string ⟨s.toArray⟩)) (hbytes : n + s.length ≤ 140737488355328) :
    GS P o st ({ st with σ := (st.c, some ⟨e, l ++ s.map gY, none⟩) :: (i, none) :: st.σ, c := st.c + 1 }.put o.dst (.rsl st.c 0 (n + s.length))) := by
  intro cx a w K R ⟨β, h⟩ hK
  obtain ⟨ti, hi⟩ : ∃ ti, P.info? e = some ti := by
    cases hi : P.info? e with
    | none => rw [hi] at hz; cases hz
    | some ti => exact ⟨ti, rfl⟩
  have ht := telem_spec he
  have hsize : ti.size = 1 := by simp [tsize, hi] at hs; exact hs
  have hbytes' : ti.bytes = 1 := by rw [hi] at hby; simpa using hby
  have hz' : ti.zero = some (.int .u8 0) := by rw [hi] at hz; simpa using hz
  have hyv : a.eval y = .string ⟨s.toArray⟩ := by have := h.ev y; rw [hy] at this; exact this.lit_eq
  have hsz : (⟨s.toArray⟩ : ByteArray).size = s.length := by simp [ByteArray.size]
  have hsc : strCells ⟨s.toArray⟩ = s.map fun b => Value.int .u8 (b.toNat : Int) := by simp [strCells]
  have hnr : Rw β (Av cx.S0 β st.σ) w (s.map gY) (s.map fun b => Value.int .u8 (b.toNat : Int)) := by
    have := Rw.lits (β := β) (S := Av cx.S0 β st.σ) (w := w) (zs := s.map fun b => Value.int .u8 (b.toNat : Int)) (fun v hv => by
      simp only [List.mem_map] at hv
      obtain ⟨b, _, rfl⟩ := hv
      rfl)
    rw [List.map_map] at this
    exact this
  obtain ⟨v', w', hrun, hrel⟩ := append_core h hs (h.ev x) hx (by simp) hnr (m := s.length) (X := fun v' w' => (execOp a.eval o).run P w = .ok (.value v') w') (fun xs hown => by
    obtain ⟨v', w', hrun', h2, h3, h4⟩ := run_append_string2 (P := P) w t u o.type e ti ht (tstr_spec hu) hi hz' hsize hbytes' (a.eval x) n xs hown ⟨s.toArray⟩ (by rw [hsz]; unfold maxLen; omega) (by rw [hsz]; exact hbytes)
    rw [hsz, hsc] at h2
    refine ⟨v', w', ?_, h2, h3, h4⟩
    unfold execOp
    simp only [ho, resolve, invoke, builtin, Sem.run_bind, Sem.run_pure, Result.andThen_ok, List.map_toArray, List.map_cons, List.map_nil, hyv, hrun']) hd (pl := none) trivial
  refine h.loose.oper (fun c hc => by rw [ho] at hc; cases hc) ?_
  unfold Oper.wp
  rw [hrun]
  exact hK _ _ hrel

/-- '[]byte(s)': bytes that nobody writes. -/
theorem gs_bytesOf {o : Oper} {st : St} {t u e : TypeId} {x : Operand} {s : List UInt8} (ho : o.op = .convert t u x) (hd : ∀ d, o.dst = some d → d < st.n) (hs : tstr P t = true) (hu : telem P u = some e) (he : tint P e = some .u8) (hx : gev st x = .lit (.string ⟨s.toArray⟩)) (hl : s.length ≤ maxLen) :
    GS P o st (st.put o.dst (gBytes s)) := by
  intro cx a w K R ⟨β, h⟩ hK
  have hv : a.eval x = .string ⟨s.toArray⟩ := by have := h.ev x; rw [hx] at this; exact this.lit_eq
  have hsz : (⟨s.toArray⟩ : ByteArray).size = s.length := by simp [ByteArray.size]
  have hr := run_bytes_of_string (P := P) w t u e ⟨s.toArray⟩ (tstr_spec hs) (telem_spec hu) (tint_spec he)
  have hrun : (execOp a.eval o).run P w = .ok (.value (.slice (some ⟨w.heap.size, 0, none⟩) s.length (grownCap w s.length 0 e))) (w.drew.alloc (.cells (bytesRow ⟨s.toArray⟩ (grownCap w s.length 0 e)) e ((bytesRow ⟨s.toArray⟩ (grownCap w s.length 0 e)).size, (bytesRow ⟨s.toArray⟩ (grownCap w s.length 0 e)).size + 1))) := by
    unfold execOp
    simp only [ho, hv]
    rw [hsz] at hr
    simp only [Sem.run_bind, hr, Result.andThen_ok, Sem.run_pure]
  refine h.loose.oper (fun c hc => by rw [ho] at hc; cases hc) ?_
  unfold Oper.wp
  rw [hrun]
  have hk : Keeps (fun _ => False) w (w.drew.alloc (.cells (bytesRow ⟨s.toArray⟩ (grownCap w s.length 0 e)) e ((bytesRow ⟨s.toArray⟩ (grownCap w s.length 0 e)).size, (bytesRow ⟨s.toArray⟩ (grownCap w s.length 0 e)).size + 1))) := ((Keeps.refl _ _).drew).alloc _
  refine hK _ _ ⟨β, (h.world hk).put o.dst hd (.imm _ _ ?_)⟩
  have hAv : ¬ Av cx.S0 β st.σ w.heap.size := by
    rintro (hb | ⟨i, ob, C, h1, h2⟩)
    · have := h.keep.lt (h.old _ hb); omega
    · have := h.lt h1 h2; omega
  have hmap : ∀ (i : Nat) (hi : i < s.length), (bytesRow ⟨s.toArray⟩ (grownCap w s.length 0 e))[i]? = some (.int .u8 ((s.getD i 0).toNat : Int)) := by
    intro i hi
    unfold bytesRow
    rw [Array.getElem?_append_left (by simp; exact hi)]
    simp [hi]
  refine .sl _ _ _ _ (fun i => .int .u8 ((s.getD i 0).toNat : Int)) (grownCap_ge w s.length 0 e) (grownCap_le_maxLen w s.length 0 e hl) (fun i hi => ⟨w.heap.size, 0, rfl, hAv, by simp, ?_⟩) (fun _ _ => rfl) (fun i g hg => ?_)
  · have hi' : i < s.length := by simpa using hi
    have := World.cell?_alloc_mark w.drew (bytesRow ⟨s.toArray⟩ (grownCap w s.length 0 e)) e ((bytesRow ⟨s.toArray⟩ (grownCap w s.length 0 e)).size, (bytesRow ⟨s.toArray⟩ (grownCap w s.length 0 e)).size + 1) (0 + i)
    rw [Nat.zero_add] at this ⊢
    exact this.trans (hmap i hi')
  · rw [List.getElem?_map] at hg
    obtain ⟨b, hb, rfl⟩ := Option.map_eq_some_iff.1 hg
    have : s.getD i 0 = b := by rw [List.getD_eq_getElem?_getD, hb]; rfl
    rw [this]
    exact .lit _

/-- 'string(b)'. -/
theorem gs_stringOf {o : Oper} {st : St} {t u e : TypeId} {x : Operand} {s : List UInt8} (ho : o.op = .convert t u x) (hd : ∀ d, o.dst = some d → d < st.n) (ht : telem P t = some e) (he : tint P e = some .u8) (hu : tstr P u = true) (hx : gview st.σ 1 (gev st x) = some (s.map gY, s.length)) : GS P o st (st.put o.dst (.lit (.string ⟨s.toArray⟩))) := by
  intro cx a w K R ⟨β, h⟩ hK
  obtain ⟨A, c, news, hv, hnl, hnr, hnc⟩ := gview_run h (h.ev x) hx
  have hns : news = s.map fun b => Value.int .u8 (b.toNat : Int) := by
    apply List.ext_getElem?
    intro i
    by_cases hi : i < s.length
    · have h1 : news[i]? = some (news[i]'(by rw [hnl]; omega)) := List.getElem?_eq_getElem _
      have := hnr.2.2 i (gY s[i]) _ (by simp [hi]) h1
      rw [h1, this.lit_eq]
      simp [hi]
    · rw [List.getElem?_eq_none (by rw [hnl]; omega), List.getElem?_eq_none (by simp; omega)]
  have hconv : (convert t u (.slice A s.length c)).run P w = .ok (.string ⟨s.toArray⟩) w := by
    cases A with
    | none =>
      have h0 : s = [] := by
        cases s with
        | nil => rfl
        | cons b r =>
          obtain ⟨a', ha, _⟩ := hnc 0 (.int .u8 (b.toNat : Int)) (by rw [hns]; rfl)
          cases ha
      subst h0
      rw [run_convert_bytes_string w t u e none _ c (telem_spec ht) (tint_spec he) (tstr_spec hu)]
      simp [Conv.bytesToString]
      rfl
    | some a0 =>
      refine run_convert_bytes_back w t u e a0 c s (telem_spec ht) (tint_spec he) (tstr_spec hu) (fun j hj => ?_)
      obtain ⟨a', ha, hc⟩ := hnc j (.int .u8 (s[j].toNat : Int)) (by rw [hns]; simp [hj])
      cases ha
      exact hc
  have hrun : (execOp a.eval o).run P w = .ok (.value (.string ⟨s.toArray⟩)) w := by
    unfold execOp
    simp only [ho, hv, Sem.run_bind, hconv, Result.andThen_ok, Sem.run_pure]
  refine h.loose.oper (fun c hc => by rw [ho] at hc; cases hc) ?_
  unfold Oper.wp
  rw [hrun]
  exact hK _ _ ⟨β, h.put o.dst hd (.imm _ _ (.lit _))⟩

theorem spure_underlying {t : TypeId} {d : TypeDesc} (h : P.underlying t = some d) : spure P (underlying t) = some d := by
  unfold underlying
  show spure P (match P.underlying t with | some d => pure d | none => stuck "no such type") = _
  rw [h]; rfl
/-- A conversion of a number. -/
theorem ev_conv {ρ : Operand → G} {σ : Sto} {d : Option Tmp} {s t ty : TypeId} {x : Operand} {pos : String} {af : Array Edge} {gd : Option (Nat × Bool)} {k k' k0 : IntKind} {n : Int} (hx : ρ x = .lit (.int k n)) (hs : tint P s = some k0) (ht : tint P t = some k') : evVal P ρ σ ⟨d, .convert s t x, ty, pos, af, gd⟩ = some (.lit (.int k' (k'.wrap n))) := by
  have h1 := tint_spec hs
  have h2 := tint_spec ht
  have hc : spure P (convert s t (.int k n)) = some (.int k' (k'.wrap n)) := by
    unfold convert
    rw [spure_bind, spure_underlying h1, Option.bind_some, spure_bind, spure_underlying h2, Option.bind_some]
    rfl
  simp only [evVal, gplain]
  rw [if_pos (by simp [Op.operands, hx, gval])]
  simp only [execOp, hx, gval, Option.getD_some]
  have e := spure_bind (p := P) (convert s t (.int k n)) (fun r => (pure (Next.value r) : Sem Next))
  rw [e, hc]
  rfl
theorem ev_min {ρ : Operand → G} {σ : Sto} {d : Option Tmp} {ats : Array TypeId} {ty : TypeId} {x y : Operand} {pos : String} {af : Array Edge} {gd : Option (Nat × Bool)} {k k' : IntKind} {m n : Int} (hx : ρ x = .lit (.int k m)) (hy : ρ y = .lit (.int k' n)) :
    evVal P ρ σ ⟨d, .call { callee := .builtin .min, args := #[x, y], argTypes := ats }, ty, pos, af, gd⟩ = some (.lit (.int k (if n < m then n else m))) := by
  simp only [evVal, gplain]
  rw [if_pos (by simp [Op.operands, Call.operands, hx, hy, gval])]
  simp only [execOp, resolve, hx, hy, gval, Option.getD_some, List.map_toArray, List.map_cons, List.map_nil]
  rfl
theorem ev_max {ρ : Operand → G} {σ : Sto} {d : Option Tmp} {ats : Array TypeId} {ty : TypeId} {x y : Operand} {pos : String} {af : Array Edge} {gd : Option (Nat × Bool)} {k k' : IntKind} {m n : Int} (hx : ρ x = .lit (.int k m)) (hy : ρ y = .lit (.int k' n)) :
    evVal P ρ σ ⟨d, .call { callee := .builtin .max, args := #[x, y], argTypes := ats }, ty, pos, af, gd⟩ = some (.lit (.int k (if n > m then n else m))) := by
  simp only [evVal, gplain]
  rw [if_pos (by simp [Op.operands, Call.operands, hx, hy, gval])]
  simp only [execOp, resolve, hx, hy, gval, Option.getD_some, List.map_toArray, List.map_cons, List.map_nil]
  rfl
theorem ev_lenS {ρ : Operand → G} {σ : Sto} {d : Option Tmp} {t ty : TypeId} {x : Operand} {pos : String} {af : Array Edge} {gd : Option (Nat × Bool)} {s : ByteArray} (hx : ρ x = .lit (.string s)) (ht : tstr P t = true) :
    evVal P ρ σ ⟨d, .call { callee := .builtin .len, args := #[x], argTypes := #[t] }, ty, pos, af, gd⟩ = some (.lit (.int .i64 s.size)) := by
  have h1 := tstr_spec ht
  have he : telem P t = none := by simp [telem, h1]
  rw [ev_len, he]
  simp only [Option.isSome_none, Bool.false_eq_true, if_false, gplain]
  rw [if_pos (by simp [Op.operands, Call.operands, hx, gval])]
  have hl : spure P (Builtin.len_ #[t] ty #[.string s]) = some (.int .i64 s.size) := by
    unfold Builtin.len_
    show spure P (underlying t >>= _) = _
    rw [spure_bind, spure_underlying h1, Option.bind_some]
    rfl
  simp only [execOp, resolve, hx, gval, Option.getD_some, List.map_toArray, List.map_cons, List.map_nil, invoke, builtin]
  have e := spure_bind (p := P) (Builtin.len_ #[t] ty #[.string s]) (fun r => (pure (Next.value r) : Sem Next))
  show (match spure P (Builtin.len_ #[t] ty #[.string s] >>= fun r => (pure (Next.value r) : Sem Next)) with | some (.value v) => some (glit v) | _ => none) = _
  rw [e, hl]
  rfl

/-! ### calls -/
section
variable {ops : Array Oper} {K : St → Prop} {ty : TypeId} {pos : String} {af : Array Edge} {rest : List Oper} {n : Nat} {gl : List (Nat × List G)} {fr : Fr} {σ : Sto} {c p d fid : Nat} {xs : Array Operand} {ats : Array TypeId}
theorem run_c {gs : List G} {r : G} (hF : Fn' P gl fid gs r) (hc : callable P fid = true) (hd : d < n) (hg : xs.toList.map (gev ⟨n, gl, fr, σ, c, p, rr⟩) = gs) (hi : ∀ g ∈ gs, ImmG g) (h : Run P ops K rest ⟨n, gl, (d, r) :: fr, σ, c, p, rr⟩) :
    Run P ops K (⟨some d, .call { callee := .value (.func fid), args := xs, argTypes := ats }, ty, pos, af, none⟩ :: rest) ⟨n, gl, fr, σ, c, p, rr⟩ := by
  subst hg
  exact .inl ⟨rfl, _, gs_call (fst := []) (cap := []) rfl (fun _ e => by cases e; exact hd) rfl hc (by simpa using hi) (by simpa using hF), h⟩
theorem rund_c {bars : List Nat} {j : Nat} {gs : List G} {r : G} (hF : Fn' P gl fid gs r) (hc : callable P fid = true) (hd : d < n) (hg : xs.toList.map (gev ⟨n, gl, fr, σ, c, p, rr⟩) = gs) (hi : ∀ g ∈ gs, ImmG g) (h : RunD P ops bars K (j + 1) rest ⟨n, gl, (d, r) :: fr, σ, c, p, rr⟩) :
    RunD P ops bars K j (⟨some d, .call { callee := .value (.func fid), args := xs, argTypes := ats }, ty, pos, af, none⟩ :: rest) ⟨n, gl, fr, σ, c, p, rr⟩ := by
  subst hg
  exact .inl ⟨rfl, _, tg_call (fst := []) (cap := []) rfl (fun _ e => by cases e; exact hd) rfl hc (by simpa using hi) (by simpa using hF), h⟩
/-- A function that hands a new row. -/
def FnR (P : Program) (gl : List (Nat × List G)) (f : FuncId) (gs : List G) (t : TypeId) (n : Nat) (l : List G) : Prop := FnM P gl f gs [] 0 0 (.rsl 0 0 n) [(0, some ⟨t, l, none⟩)]
theorem run_cR {gs : List G} {t : TypeId} {m : Nat} {l : List G} (hF : FnR P gl fid gs t m l) (hc : callable P fid = true) (hd : d < n) (hg : xs.toList.map (gev ⟨n, gl, fr, σ, c, p, rr⟩) = gs) (hi : ∀ g ∈ gs, ImmG g) (hl : ∀ g ∈ l, ImmG g) (hfr : ∀ i ob, sget σ i = some ob → i < c) (h : Run P ops K rest ⟨n, gl, (d, .rsl c 0 m) :: fr, (c, some ⟨t, l, none⟩) :: σ, c + 1, p, rr⟩) :
    Run P ops K (⟨some d, .call { callee := .value (.func fid), args := xs, argTypes := ats }, ty, pos, af, none⟩ :: rest) ⟨n, gl, fr, σ, c, p, rr⟩ := by
  subst hg
  refine .inl ⟨rfl, _, gs_callM (fst := []) (cap := []) (σ' := (c, some ⟨t, l, none⟩) :: σ) (c' := c + 1) (r' := .rsl c 0 m) [] [(c, 0)] [] rfl (fun _ e => by cases e; exact hd) rfl hc hF (by simp) (fun i g g' h1 h2 => ?_) (by simp [rho]) (by simp) vwst_nil (Nat.le_succ _) (fun k i hk hlt => ?_) (fun k k' i h1 h2 => ?_) (by simp) (fun k ob' hk => ?_) (rn_rsl (by simp [rho])), h⟩
  · simp only [List.nil_append, List.append_nil] at h1
    rw [h1] at h2; cases h2
    exact vw_imm (hi g (List.mem_of_getElem? h1))
  · have := rho_key hk
    simp at this
    simp at hlt
    omega
  · have a1 := rho_key h1
    have a2 := rho_key h2
    simp at a1 a2
    omega
  · rw [sget_cons] at hk
    split at hk
    · cases hk
      subst_vars
      refine .inl ⟨0, ⟨t, l, none⟩, by simp [rho], rfl, rfl, Nat.le_refl _, fun e => e, ⟨rfl, rfl⟩, fun x g g' h1 h2 => ?_⟩
      rw [h1] at h2; cases h2
      exact rn_imm (hl g (List.mem_of_getElem? h1))
    · rename_i hne
      refine .inr ⟨?_, hk, by simp, by simp⟩
      simp only [rho, List.lookup]
      have : (k == c) = false := by simpa using fun e => hne e.symm
      rw [this]
end
end
end Go.Proofs.YtfnglmepfjaimaaGreatDoor
