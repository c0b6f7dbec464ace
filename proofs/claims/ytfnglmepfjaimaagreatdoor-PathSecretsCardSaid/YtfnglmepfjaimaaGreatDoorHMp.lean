/- op.present, op.range1: their walks through maps, in any order; for the runner. -/
import Derived.Test.YtfnglmepfjaimaaGreatDoorFN
import Derived.Test.YtfnglmepfjaimaaGreatDoorHTp
namespace Go.Proofs.YtfnglmepfjaimaaGreatDoor
open Go.RowKit
set_option linter.unusedVariables false
set_option linter.unusedSimpArgs false
/-! ### pieces of code -/
def seqs (l : List Code) (b : Code) : Code := match l with
  | [] => b
  | a :: r => .seq a (seqs r b)
def seqL : Code → Code
  | .seq a _ => a
  | _ => .skip
def seqR : Code → Code
  | .seq _ b => b
  | _ => .skip
def regOps : Code → List Oper
  | .region _ ops _ => ops.toList
  | _ => []
/-- Pieces one behind the other, each of which ends in one way. -/
def spine (run : XRun) : List Code → St → Option (Exit × St)
  | [], s => some (.normal, s)
  | a :: r, s => match run a s noLow with
    | some [(.normal, s', _)] => spine run r s'
    | some [(.ret, s', _)] => some (.ret, s')
    | _ => none
theorem spine_tr {P : Program} {run : XRun} (hr : RunOk P run) {b : Code} {Q : Exit → St → Prop} {e : Exit} {s' : St} : ∀ {l : List Code} {s : St}, spine run l s = some (e, s') → (e = .normal → Tr P b s' Q) → (e = .ret → ∀ s2, Eqv s2 s' → Q .ret s2) → Tr P (seqs l b) s Q
  | [], s, h, h1, h2 => by
    cases h
    exact h1 rfl
  | a :: r, s, h, h1, h2 => by
    unfold spine at h
    split at h
    · rename_i s1 lo hm
      refine tr_seq ((hr.tr _ _ _ _ hm).mono fun e' s2 hp => ?_)
      obtain ⟨rfl, he⟩ := post_one hp
      exact thn_n ((spine_tr hr h h1 h2).le he.le)
    · rename_i s1 lo hm
      cases h
      refine tr_seq ((hr.tr _ _ _ _ hm).mono fun e' s2 hp => ?_)
      obtain ⟨rfl, he⟩ := post_one hp
      exact thn_x (by simp) (h2 rfl s2 he)
    · cases h
/-- The values of a map's row, worked out in the text's order. -/
def mlFr (P : Program) (E : XEnv) (run : XRun) (mi : Nat) : List Oper → St → Fr → Option Fr
  | [], s, V => some V
  | o :: r, s, V => match o.op with
    | .makeMap .. => (match o.dst with
      | some d => mlFr P E run mi r { s with fr := (d, .mref mi) :: s.fr } ((d, .mref mi) :: V)
      | none => none)
    | .insert .. => mlFr P E run mi r s V
    | .range .. => (match o.dst with
      | some d => mlFr P E run mi r { s with fr := (d, .ref (mi + 1) 0) :: s.fr } ((d, .ref (mi + 1) 0) :: V)
      | none => none)
    | _ => (match o.dst, xval P E run o s with
      | some d, some g => forceG g fun g => mlFr P E run mi r { s with fr := (d, g) :: s.fr } ((d, g) :: V)
      | _, _ => none)
def entOk (q : Value × G) : Bool := match q.1 with
  | .int .i64 (.ofNat m) => Nat.blt m 1048576 && (match q.2 with
    | .lit (.bool _) => true
    | _ => false)
  | _ => false
theorem entOk_spec {q : Value × G} (h : entOk q = true) : ∃ m b, q.1 = .int .i64 (.ofNat m) ∧ m < 1048576 ∧ q.2 = .lit (.bool b) := by
  unfold entOk at h
  split at h
  · rename_i m hm
    simp only [Bool.and_eq_true] at h
    obtain ⟨h1, h2⟩ := h
    split at h2
    · rename_i b hb
      exact ⟨m, b, hm, Nat.le_of_ble_eq_true h1, hb⟩
    · cases h2
  · cases h
def orEnts : List (Value × G) → Nat
  | [] => 0
  | q :: r => mVal q.1 q.2 ||| orEnts r
theorem orAll_bit (i : Nat) : ∀ (es : Ents), (orAll es).testBit i = true ↔ ∃ e ∈ es, (mVal e.1 e.2.1).testBit i = true
  | [] => by simp [orAll]
  | e :: r => by
    unfold orAll
    rw [Nat.testBit_or, Bool.or_eq_true, orAll_bit i r]
    simp
theorem orEnts_bit (i : Nat) : ∀ (l : List (Value × G)), (orEnts l).testBit i = true ↔ ∃ q ∈ l, (mVal q.1 q.2).testBit i = true
  | [] => by simp [orEnts]
  | e :: r => by
    unfold orEnts
    rw [Nat.testBit_or, Bool.or_eq_true, orEnts_bit i r]
    simp
theorem orAll_ents {l : List (Value × G)} {es : Ents} {clock : Nat} (h : MapOf l es clock) : orAll es = orEnts l := by
  refine Nat.eq_of_testBit_eq fun i => ?_
  rw [Bool.eq_iff_iff, orAll_bit, orEnts_bit]
  constructor
  · rintro ⟨e, he, hb⟩
    exact ⟨_, h.sub e he, hb⟩
  · rintro ⟨q, hq, hb⟩
    obtain ⟨n, hn⟩ := h.sup q hq
    exact ⟨_, hn, hb⟩

/-! ### the runner for these -/
def pfM : List Nat := [288, 289, 290]
def EM : XEnv := { pf := fun f => pfM.any (Nat.beq f), tp := tpA }
theorem EM_kc : KcOk Tryz.prog EM := ⟨(fun _ _ _ _ _ _ h => by cases h), (fun _ _ _ _ _ _ _ h => by cases h)⟩
noncomputable def runM : XRun := xcode Tryz.prog EM 100000
theorem runM_ok : RunOk Tryz.prog runM := (xcode_ok mixed tpA_ok EM_kc 100000).toRunOk

/-! ### op.present -/
noncomputable def bdP : Code := (Tryz.f173.body).getD .skip
noncomputable def pA : Code := seqL bdP
noncomputable def pB : Code := seqL (seqR bdP)
noncomputable def pM : Code := seqL (seqL (seqR (seqR bdP)))
noncomputable def pL : Code := seqR (seqL (seqR (seqR bdP)))
noncomputable def pR : Code := seqR (seqR (seqR bdP))
noncomputable def pOps : List Oper := regOps pM
theorem bodyP : Tryz.f173.body = some (seqs [pA, pB] (.seq (.seq pM pL) pR)) := by kernel_rfl
theorem pM_eq : pM = .region 2 pOps.toArray true := by kernel_rfl
theorem pStat : mlStat Tryz.prog 75 351 3 4 pOps 74 = true := by kernel_rfl
noncomputable def presS (s : St) (vals : Fr) : Option G :=
  bif mlDyn Tryz.prog EM runM s vals pOps && gEqX 16 (fget (vals ++ s.fr) 3) (.lit (.int .i64 0)) && gEqX 16 (fget (vals ++ s.fr) 64) (.ref (s.c + 1) 0) && (pOps.filterMap (entOf (sAll s vals))).all entOk && Nat.beq s.n 75 then
    some (.lit (.int .i64 (orEnts (pOps.filterMap (entOf (sAll s vals))) : Nat))) else none
noncomputable def tpPres (gs : List G) (gl : List (Nat × List G)) : Option G := bif Nat.beq gs.length 1 then (match spine runM [pA, pB] (St.enter Tryz.f173 gl gs) with
  | some (.normal, s) => match mlFr Tryz.prog EM runM s.c pOps s [] with
    | some vals => presS s vals
    | none => none
  | _ => none) else none
theorem bl_or64 {P : Program} {t : TypeId} {x y : Operand} {a b : Nat} (ha : a < 1048576) (hb : b < 1048576) : gbin P .or t x y (.lit (.int .i64 (a : Int))) (.lit (.int .i64 (Int.ofNat b))) = some (.lit (.int .i64 ((a ||| b : Nat) : Int))) := gb_or64 (by omega) (by omega)
attribute [local irreducible] Tr Run RunD GS TG Le Wk Frz Fn' ImmG Flat WkFr WkSt
theorem le_cut {P : Program} {st : St} {fr : Fr} {σ : Sto} (hf : ∀ i, fget fr i = fget st.fr i ∨ fget fr i = .junk) (hσ : ∀ i o, sget σ i = some o → sget st.σ i = some o) : Le P st { st with fr := fr, σ := σ } := by
  refine Le.trans (b := { st with fr := fr }) (le_fr hf) ?_
  unfold Le
  intro cx a w r
  exact Sub.rel (st := { st with fr := fr }) (st' := { st with fr := fr, σ := σ }) ⟨rfl, rfl, fun _ => rfl, hσ, rfl, rfl, rfl⟩ r
theorem fget_two {a b : Nat} {g h : G} {fr : Fr} (h1 : fget fr a = g) (h2 : fget fr b = h) (i : Nat) : fget [(a, g), (b, h)] i = fget fr i ∨ fget [(a, g), (b, h)] i = .junk := by
  rw [fget_cons, fget_cons]
  split
  · rename_i e; subst e; exact .inl h1.symm
  · split
    · rename_i e; subst e; exact .inl h2.symm
    · exact .inr rfl
theorem sget_two {a b : Nat} {x y : Option Ob} {σ : Sto} (i : Nat) (o : Ob) (h : sget [(a, x), (b, y)] i = some o) : sget ((a, x) :: (b, y) :: σ) i = some o := by
  rw [sget_cons, sget_cons] at h ⊢
  split at h
  · rename_i e; rw [if_pos e]; exact h
  · rename_i e
    rw [if_neg e]
    split at h
    · rename_i e2; rw [if_pos e2]; exact h
    · cases h
theorem sget_three {a b : Nat} {x x' y : Option Ob} {σ : Sto} (i : Nat) (o : Ob) (h : sget [(a, x), (b, y)] i = some o) : sget ((a, x) :: (a, x') :: (b, y) :: σ) i = some o := by
  rw [sget_cons, sget_cons] at h
  rw [sget_cons, sget_cons, sget_cons]
  split at h
  · rename_i e; rw [if_pos e]; exact h
  · rename_i e
    rw [if_neg e, if_neg e]
    split at h
    · rename_i e2; rw [if_pos e2]; exact h
    · cases h
theorem or_wrap {a m : Nat} (ha : a < 1048576) (hm : m < 1048576) : G.lit (.int .i64 (IntKind.i64.wrap ((a % 2 ^ IntKind.i64.bits ||| m % 2 ^ IntKind.i64.bits : Nat) : Int))) = .lit (.int .i64 ((a ||| m : Nat) : Int)) := by
  have e1 : a % 2 ^ IntKind.i64.bits = a := Nat.mod_eq_of_lt (by show a < 2 ^ 64; omega)
  have e2 : m % 2 ^ IntKind.i64.bits = m := Nat.mod_eq_of_lt (by show m < 2 ^ 64; omega)
  have h2 : a ||| m < 2 ^ 20 := Nat.or_lt_two_pow ha hm
  rw [e1, e2, w64 (by omega)]
theorem find_born {n : Nat} {k : Value} {g : G} : ∀ {es : Ents}, (es.map (·.2.2)).Nodup → (k, g, n) ∈ es → es.find? (fun e => Nat.beq e.2.2 n) = some (k, g, n)
  | e :: r, hd, h => by
    simp only [List.map_cons, List.nodup_cons] at hd
    rw [List.find?_cons]
    rcases List.mem_cons.1 h with rfl | h
    · simp only [Nat.beq_refl]
    · have : Nat.beq e.2.2 n = false := by
        cases hb : Nat.beq e.2.2 n with
        | false => rfl
        | true => exact absurd (List.mem_map.2 ⟨_, h, (Nat.eq_of_beq_eq_true hb).symm⟩) hd.1
      rw [this]
      exact find_born hd.2 h
theorem gentry_at {σ : Sto} {g : G} {iti mi since clock n : Nat} {T ty : TypeId} {seen : List Nat} {es : Ents} {k : Value} {v : G} (hi : giter σ g = some (iti, T, some mi, since, seen ++ [n], clock)) (hm : gmap σ (.mref mi) = some (mi, ty, es, clock)) (hd : (es.map (·.2.2)).Nodup) (h : (k, v, n) ∈ es) : gentry σ g = some (.tup [glit k, v]) := by
  unfold gentry
  rw [hi]
  simp only [hm, List.getLast?_append, List.getLast?_singleton, Option.some_or, Nat.beq_refl, cond_true, find_born hd h]
set_option maxHeartbeats 2000000 in
theorem pres_walk (s : St) (vals : Fr) (r : G) (h : presS s vals = some r) : Tr Tryz.prog (.seq (.seq pM pL) pR) s (Ended Tryz.prog Tryz.f173 r) := by
  obtain ⟨n0, gl, fr, σ, c, p, rr⟩ := s
  unfold presS at h
  cases hc : (mlDyn Tryz.prog EM runM ⟨n0, gl, fr, σ, c, p, rr⟩ vals pOps && gEqX 16 (fget (vals ++ fr) 3) (.lit (.int .i64 0)) && gEqX 16 (fget (vals ++ fr) 64) (.ref (c + 1) 0) && (pOps.filterMap (entOf (sAll ⟨n0, gl, fr, σ, c, p, rr⟩ vals))).all entOk && Nat.beq n0 75) with
  | false => rw [hc] at h; cases h
  | true =>
  rw [hc] at h
  simp only [cond_true, Option.some.injEq] at h
  simp only [Bool.and_eq_true, List.all_eq_true] at hc
  obtain ⟨⟨⟨⟨h1, h2⟩, h3⟩, h4⟩, h5⟩ := hc
  have h2 := gEqX_spec 16 _ _ h2
  have h3 := gEqX_spec 16 _ _ h3
  obtain rfl := Nat.eq_of_beq_eq_true h5
  generalize hE : pOps.filterMap (entOf (sAll ⟨75, gl, fr, σ, c, p, rr⟩ vals)) = ents at h h4
  refine tr_seq (tr_seq ?_)
  rw [pM_eq]
  refine tr_maplit (E := EM) (run := runM) (st := ⟨75, gl, fr, σ, c, p, rr⟩) mixed runM_ok tpA_ok pStat h1 fun es clock hM => ?_
  rw [hE] at hM
  refine thn_n ?_
  have hk : ∀ e ∈ es, mKey e.1 < 2 ^ 20 := fun e he => by
    obtain ⟨m, b, e1, e2, _⟩ := entOk_spec (h4 _ (hM.sub e he))
    have e1 : e.1 = _ := e1
    rw [e1]
    exact e2
  have hlt : ∀ seen, orAcc seen es < 1048576 := fun seen => orAcc_lt hk
  unfold pL bdP Tryz.f173
  simp only [seqL, seqR, Option.getD_some]
  refine tr_mapwalk (it := 64) (a := 65) (b := 66) (iti := c + 1) (mi := c) (clock := clock) (since := clock) (T := 351) (ty := 351) (es := es)
    (S := fun seen => ⟨75, gl, [(3, .lit (.int .i64 (orAcc seen es : Nat))), (64, .ref (c + 1) 0)], [(c + 1, some ⟨351, [], some (.iter (some c) clock seen clock)⟩), (c, some ⟨351, [], some (.map es clock)⟩)], c + 2, p, rr⟩) (fun _ => True) trivial hM.lt rfl ?_ (fun seen => ?_) (fun seen => ?_) (fun seen => ⟨show 65 < 75 by decide, show 66 < 75 by decide⟩) (fun seen k g n _ hm hn => ?_) (fun seen _ hs => ?_)
  · simp only [orAcc_nil]
    exact le_cut (st := ⟨75, gl, vals ++ fr, _, c + 2, p, rr⟩) (fget_two h2 h3) sget_two
  · simp [giter, gev, fget_cons, sget_cons]
  · simp [gmap, sget_cons]
  · obtain ⟨m, b, e1, e2, e3⟩ := entOk_spec (h4 _ (hM.sub _ hm))
    have e1 : k = _ := e1
    have e3 : g = _ := e3
    subst e1 e3
    have hge : gentry [(c + 1, some ⟨351, [], some (.iter (some c) clock (seen ++ [n]) clock)⟩), (c + 1, some ⟨351, [], some (.iter (some c) clock seen clock)⟩), (c, some ⟨351, [], some (.map es clock)⟩)] (.ref (c + 1) 0) = some (.tup [glit (.int .i64 (.ofNat m)), .lit (.bool b)]) :=
      gentry_at (iti := c + 1) (mi := c) (since := clock) (clock := clock) (T := 351) (ty := 351) (seen := seen) (by simp [giter, sget_cons]) (by simp [gmap, sget_cons]) hM.nd hm
    clear e1 e3
    dsimp only
    refine tr_block (tr_seq (tr_region (run_e rfl (gs_entry (g := .tup [glit (.int .i64 (.ofNat m)), .lit (.bool b)]) rfl (fun d e => by cases e; show 67 < 75; decide) ?_) ?_)))
    · exact hge
    simp only [St.put, glit_int]
    cases b with
    | true =>
      repeat' (first | apply tr_seq | apply tr_region | apply run_nil | apply thn_n | apply thn_e | apply thn_r | apply blk_e | apply blk_n | apply blk_r | (refine blk_ne ?_ ?_; decide) | apply tr_block | apply tr_skip | apply tr_label | apply tr_exit | apply tr_ret | (refine tr_region_draw (bars := []) mixed (by kernel_rfl) ?_) | apply rund_nil | (apply run_v; simp (disch := omega) [if_pos]; (first | rfl | exact ⟨rfl, rfl⟩ | exact ⟨rfl, rfl, rfl, rfl⟩); decide) | (apply rund_v; simp (disch := omega) [if_pos]; (first | rfl | exact ⟨rfl, rfl⟩ | exact ⟨rfl, rfl, rfl, rfl⟩); decide) | (apply run_conv; simp (disch := omega) [if_pos]; (first | rfl | exact ⟨rfl, rfl⟩ | exact ⟨rfl, rfl, rfl, rfl⟩); decide) | (apply rund_conv; simp (disch := omega) [if_pos]; (first | rfl | exact ⟨rfl, rfl⟩ | exact ⟨rfl, rfl, rfl, rfl⟩); decide) | (apply run_min; simp (disch := omega) [if_pos]; (first | rfl | exact ⟨rfl, rfl⟩ | exact ⟨rfl, rfl, rfl, rfl⟩); decide) | (apply rund_min; simp (disch := omega) [if_pos]; (first | rfl | exact ⟨rfl, rfl⟩ | exact ⟨rfl, rfl, rfl, rfl⟩); decide) | (apply run_max; simp (disch := omega) [if_pos]; (first | rfl | exact ⟨rfl, rfl⟩ | exact ⟨rfl, rfl, rfl, rfl⟩); decide) | (apply rund_max; simp (disch := omega) [if_pos]; (first | rfl | exact ⟨rfl, rfl⟩ | exact ⟨rfl, rfl, rfl, rfl⟩); decide) | (apply run_lenS; simp (disch := omega) [if_pos]; (first | rfl | exact ⟨rfl, rfl⟩ | exact ⟨rfl, rfl, rfl, rfl⟩); decide) | (apply rund_lenS; simp (disch := omega) [if_pos]; (first | rfl | exact ⟨rfl, rfl⟩ | exact ⟨rfl, rfl, rfl, rfl⟩); decide) | (apply run_bs; simp (disch := omega) [if_pos]; (first | rfl | exact ⟨rfl, rfl⟩ | exact ⟨rfl, rfl, rfl, rfl⟩); decide) | (apply run_app; simp (disch := omega) [if_pos]; (first | rfl | exact ⟨rfl, rfl⟩ | exact ⟨rfl, rfl, rfl, rfl⟩); decide) | (apply run_build; simp (disch := omega) [if_pos]; (first | rfl | exact ⟨rfl, rfl⟩ | exact ⟨rfl, rfl, rfl, rfl⟩); decide) | (apply run_box; simp (disch := omega) [if_pos]; (first | rfl | exact ⟨rfl, rfl⟩ | exact ⟨rfl, rfl, rfl, rfl⟩); decide) | (apply run_alloc; simp (disch := omega) [if_pos]; (first | rfl | exact ⟨rfl, rfl⟩ | exact ⟨rfl, rfl, rfl, rfl⟩); decide) | (apply rund_build; simp (disch := omega) [if_pos]; (first | rfl | exact ⟨rfl, rfl⟩ | exact ⟨rfl, rfl, rfl, rfl⟩); decide) | (apply run_sto; simp (disch := omega) [if_pos]; rfl) | (apply rund_bs; decide; simp (disch := omega) [if_pos]; (first | rfl | exact ⟨rfl, rfl⟩ | exact ⟨rfl, rfl, rfl, rfl⟩); decide) | (apply rund_app; decide; simp (disch := omega) [if_pos]; (first | rfl | exact ⟨rfl, rfl⟩ | exact ⟨rfl, rfl, rfl, rfl⟩); decide) | (apply rund_sto; decide; simp (disch := omega) [if_pos]; rfl))
      refine tr_condT (by simp) ?_
      repeat' (first | apply tr_seq | apply tr_region | apply run_nil | apply thn_n | apply thn_e | apply thn_r | apply blk_e | apply blk_n | apply blk_r | (refine blk_ne ?_ ?_; decide) | apply tr_block | apply tr_skip | apply tr_label | apply tr_exit | apply tr_ret | (refine tr_region_draw (bars := []) mixed (by kernel_rfl) ?_) | apply rund_nil | (apply run_v; simp (disch := omega) [if_pos, bl_or64 (hlt seen) e2]; (first | rfl | exact ⟨rfl, rfl⟩ | exact ⟨rfl, rfl, rfl, rfl⟩); decide) | (apply rund_v; simp (disch := omega) [if_pos, bl_or64 (hlt seen) e2]; (first | rfl | exact ⟨rfl, rfl⟩ | exact ⟨rfl, rfl, rfl, rfl⟩); decide) | (apply run_conv; simp (disch := omega) [if_pos, bl_or64 (hlt seen) e2]; (first | rfl | exact ⟨rfl, rfl⟩ | exact ⟨rfl, rfl, rfl, rfl⟩); decide) | (apply rund_conv; simp (disch := omega) [if_pos, bl_or64 (hlt seen) e2]; (first | rfl | exact ⟨rfl, rfl⟩ | exact ⟨rfl, rfl, rfl, rfl⟩); decide) | (apply run_min; simp (disch := omega) [if_pos, bl_or64 (hlt seen) e2]; (first | rfl | exact ⟨rfl, rfl⟩ | exact ⟨rfl, rfl, rfl, rfl⟩); decide) | (apply rund_min; simp (disch := omega) [if_pos, bl_or64 (hlt seen) e2]; (first | rfl | exact ⟨rfl, rfl⟩ | exact ⟨rfl, rfl, rfl, rfl⟩); decide) | (apply run_max; simp (disch := omega) [if_pos, bl_or64 (hlt seen) e2]; (first | rfl | exact ⟨rfl, rfl⟩ | exact ⟨rfl, rfl, rfl, rfl⟩); decide) | (apply rund_max; simp (disch := omega) [if_pos, bl_or64 (hlt seen) e2]; (first | rfl | exact ⟨rfl, rfl⟩ | exact ⟨rfl, rfl, rfl, rfl⟩); decide) | (apply run_lenS; simp (disch := omega) [if_pos, bl_or64 (hlt seen) e2]; (first | rfl | exact ⟨rfl, rfl⟩ | exact ⟨rfl, rfl, rfl, rfl⟩); decide) | (apply rund_lenS; simp (disch := omega) [if_pos, bl_or64 (hlt seen) e2]; (first | rfl | exact ⟨rfl, rfl⟩ | exact ⟨rfl, rfl, rfl, rfl⟩); decide) | (apply run_bs; simp (disch := omega) [if_pos, bl_or64 (hlt seen) e2]; (first | rfl | exact ⟨rfl, rfl⟩ | exact ⟨rfl, rfl, rfl, rfl⟩); decide) | (apply run_app; simp (disch := omega) [if_pos, bl_or64 (hlt seen) e2]; (first | rfl | exact ⟨rfl, rfl⟩ | exact ⟨rfl, rfl, rfl, rfl⟩); decide) | (apply run_build; simp (disch := omega) [if_pos, bl_or64 (hlt seen) e2]; (first | rfl | exact ⟨rfl, rfl⟩ | exact ⟨rfl, rfl, rfl, rfl⟩); decide) | (apply run_box; simp (disch := omega) [if_pos, bl_or64 (hlt seen) e2]; (first | rfl | exact ⟨rfl, rfl⟩ | exact ⟨rfl, rfl, rfl, rfl⟩); decide) | (apply run_alloc; simp (disch := omega) [if_pos, bl_or64 (hlt seen) e2]; (first | rfl | exact ⟨rfl, rfl⟩ | exact ⟨rfl, rfl, rfl, rfl⟩); decide) | (apply rund_build; simp (disch := omega) [if_pos, bl_or64 (hlt seen) e2]; (first | rfl | exact ⟨rfl, rfl⟩ | exact ⟨rfl, rfl, rfl, rfl⟩); decide) | (apply run_sto; simp (disch := omega) [if_pos, bl_or64 (hlt seen) e2]; rfl) | (apply rund_bs; decide; simp (disch := omega) [if_pos, bl_or64 (hlt seen) e2]; (first | rfl | exact ⟨rfl, rfl⟩ | exact ⟨rfl, rfl, rfl, rfl⟩); decide) | (apply rund_app; decide; simp (disch := omega) [if_pos, bl_or64 (hlt seen) e2]; (first | rfl | exact ⟨rfl, rfl⟩ | exact ⟨rfl, rfl, rfl, rfl⟩); decide) | (apply rund_sto; decide; simp (disch := omega) [if_pos, bl_or64 (hlt seen) e2]; rfl))
      refine ⟨trivial, ?_⟩
      refine le_cut (st := ⟨75, gl, _, _, c + 2, p, rr⟩) (fget_two (by rw [fget_cons, if_pos rfl, orAcc_add hn hm hM.nd]; exact or_wrap (hlt seen) e2) (by simp)) (fun i o h => sget_three i o h)
    | false =>
      repeat' (first | apply tr_seq | apply tr_region | apply run_nil | apply thn_n | apply thn_e | apply thn_r | apply blk_e | apply blk_n | apply blk_r | (refine blk_ne ?_ ?_; decide) | apply tr_block | apply tr_skip | apply tr_label | apply tr_exit | apply tr_ret | (refine tr_region_draw (bars := []) mixed (by kernel_rfl) ?_) | apply rund_nil | (apply run_v; simp (disch := omega) [if_pos]; (first | rfl | exact ⟨rfl, rfl⟩ | exact ⟨rfl, rfl, rfl, rfl⟩); decide) | (apply rund_v; simp (disch := omega) [if_pos]; (first | rfl | exact ⟨rfl, rfl⟩ | exact ⟨rfl, rfl, rfl, rfl⟩); decide) | (apply run_conv; simp (disch := omega) [if_pos]; (first | rfl | exact ⟨rfl, rfl⟩ | exact ⟨rfl, rfl, rfl, rfl⟩); decide) | (apply rund_conv; simp (disch := omega) [if_pos]; (first | rfl | exact ⟨rfl, rfl⟩ | exact ⟨rfl, rfl, rfl, rfl⟩); decide) | (apply run_min; simp (disch := omega) [if_pos]; (first | rfl | exact ⟨rfl, rfl⟩ | exact ⟨rfl, rfl, rfl, rfl⟩); decide) | (apply rund_min; simp (disch := omega) [if_pos]; (first | rfl | exact ⟨rfl, rfl⟩ | exact ⟨rfl, rfl, rfl, rfl⟩); decide) | (apply run_max; simp (disch := omega) [if_pos]; (first | rfl | exact ⟨rfl, rfl⟩ | exact ⟨rfl, rfl, rfl, rfl⟩); decide) | (apply rund_max; simp (disch := omega) [if_pos]; (first | rfl | exact ⟨rfl, rfl⟩ | exact ⟨rfl, rfl, rfl, rfl⟩); decide) | (apply run_lenS; simp (disch := omega) [if_pos]; (first | rfl | exact ⟨rfl, rfl⟩ | exact ⟨rfl, rfl, rfl, rfl⟩); decide) | (apply rund_lenS; simp (disch := omega) [if_pos]; (first | rfl | exact ⟨rfl, rfl⟩ | exact ⟨rfl, rfl, rfl, rfl⟩); decide) | (apply run_bs; simp (disch := omega) [if_pos]; (first | rfl | exact ⟨rfl, rfl⟩ | exact ⟨rfl, rfl, rfl, rfl⟩); decide) | (apply run_app; simp (disch := omega) [if_pos]; (first | rfl | exact ⟨rfl, rfl⟩ | exact ⟨rfl, rfl, rfl, rfl⟩); decide) | (apply run_build; simp (disch := omega) [if_pos]; (first | rfl | exact ⟨rfl, rfl⟩ | exact ⟨rfl, rfl, rfl, rfl⟩); decide) | (apply run_box; simp (disch := omega) [if_pos]; (first | rfl | exact ⟨rfl, rfl⟩ | exact ⟨rfl, rfl, rfl, rfl⟩); decide) | (apply run_alloc; simp (disch := omega) [if_pos]; (first | rfl | exact ⟨rfl, rfl⟩ | exact ⟨rfl, rfl, rfl, rfl⟩); decide) | (apply rund_build; simp (disch := omega) [if_pos]; (first | rfl | exact ⟨rfl, rfl⟩ | exact ⟨rfl, rfl, rfl, rfl⟩); decide) | (apply run_sto; simp (disch := omega) [if_pos]; rfl) | (apply rund_bs; decide; simp (disch := omega) [if_pos]; (first | rfl | exact ⟨rfl, rfl⟩ | exact ⟨rfl, rfl, rfl, rfl⟩); decide) | (apply rund_app; decide; simp (disch := omega) [if_pos]; (first | rfl | exact ⟨rfl, rfl⟩ | exact ⟨rfl, rfl, rfl, rfl⟩); decide) | (apply rund_sto; decide; simp (disch := omega) [if_pos]; rfl))
      refine tr_condF (by simp) ?_
      repeat' (first | apply tr_seq | apply tr_region | apply run_nil | apply thn_n | apply thn_e | apply thn_r | apply blk_e | apply blk_n | apply blk_r | (refine blk_ne ?_ ?_; decide) | apply tr_block | apply tr_skip | apply tr_label | apply tr_exit | apply tr_ret | (refine tr_region_draw (bars := []) mixed (by kernel_rfl) ?_) | apply rund_nil | (apply run_v; simp (disch := omega) [if_pos]; (first | rfl | exact ⟨rfl, rfl⟩ | exact ⟨rfl, rfl, rfl, rfl⟩); decide) | (apply rund_v; simp (disch := omega) [if_pos]; (first | rfl | exact ⟨rfl, rfl⟩ | exact ⟨rfl, rfl, rfl, rfl⟩); decide) | (apply run_conv; simp (disch := omega) [if_pos]; (first | rfl | exact ⟨rfl, rfl⟩ | exact ⟨rfl, rfl, rfl, rfl⟩); decide) | (apply rund_conv; simp (disch := omega) [if_pos]; (first | rfl | exact ⟨rfl, rfl⟩ | exact ⟨rfl, rfl, rfl, rfl⟩); decide) | (apply run_min; simp (disch := omega) [if_pos]; (first | rfl | exact ⟨rfl, rfl⟩ | exact ⟨rfl, rfl, rfl, rfl⟩); decide) | (apply rund_min; simp (disch := omega) [if_pos]; (first | rfl | exact ⟨rfl, rfl⟩ | exact ⟨rfl, rfl, rfl, rfl⟩); decide) | (apply run_max; simp (disch := omega) [if_pos]; (first | rfl | exact ⟨rfl, rfl⟩ | exact ⟨rfl, rfl, rfl, rfl⟩); decide) | (apply rund_max; simp (disch := omega) [if_pos]; (first | rfl | exact ⟨rfl, rfl⟩ | exact ⟨rfl, rfl, rfl, rfl⟩); decide) | (apply run_lenS; simp (disch := omega) [if_pos]; (first | rfl | exact ⟨rfl, rfl⟩ | exact ⟨rfl, rfl, rfl, rfl⟩); decide) | (apply rund_lenS; simp (disch := omega) [if_pos]; (first | rfl | exact ⟨rfl, rfl⟩ | exact ⟨rfl, rfl, rfl, rfl⟩); decide) | (apply run_bs; simp (disch := omega) [if_pos]; (first | rfl | exact ⟨rfl, rfl⟩ | exact ⟨rfl, rfl, rfl, rfl⟩); decide) | (apply run_app; simp (disch := omega) [if_pos]; (first | rfl | exact ⟨rfl, rfl⟩ | exact ⟨rfl, rfl, rfl, rfl⟩); decide) | (apply run_build; simp (disch := omega) [if_pos]; (first | rfl | exact ⟨rfl, rfl⟩ | exact ⟨rfl, rfl, rfl, rfl⟩); decide) | (apply run_box; simp (disch := omega) [if_pos]; (first | rfl | exact ⟨rfl, rfl⟩ | exact ⟨rfl, rfl, rfl, rfl⟩); decide) | (apply run_alloc; simp (disch := omega) [if_pos]; (first | rfl | exact ⟨rfl, rfl⟩ | exact ⟨rfl, rfl, rfl, rfl⟩); decide) | (apply rund_build; simp (disch := omega) [if_pos]; (first | rfl | exact ⟨rfl, rfl⟩ | exact ⟨rfl, rfl, rfl, rfl⟩); decide) | (apply run_sto; simp (disch := omega) [if_pos]; rfl) | (apply rund_bs; decide; simp (disch := omega) [if_pos]; (first | rfl | exact ⟨rfl, rfl⟩ | exact ⟨rfl, rfl, rfl, rfl⟩); decide) | (apply rund_app; decide; simp (disch := omega) [if_pos]; (first | rfl | exact ⟨rfl, rfl⟩ | exact ⟨rfl, rfl, rfl, rfl⟩); decide) | (apply rund_sto; decide; simp (disch := omega) [if_pos]; rfl))
      refine ⟨trivial, ?_⟩
      refine le_cut (st := ⟨75, gl, _, _, c + 2, p, rr⟩) (fget_two (by simp; rw [orAcc_add hn hm hM.nd]; simp [mVal, mHas]) (by simp)) (fun i o h => sget_three i o h)
  · dsimp only
    subst h
    repeat' (first | apply tr_seq | apply tr_region | apply run_nil | apply thn_n | apply thn_e | apply thn_r | apply blk_e | apply blk_n | apply blk_r | (refine blk_ne ?_ ?_; decide) | apply tr_block | apply tr_skip | apply tr_label | apply tr_exit | apply tr_ret | (refine tr_region_draw (bars := []) mixed (by kernel_rfl) ?_) | apply rund_nil | (apply run_v; simp (disch := omega) [if_pos]; (first | rfl | exact ⟨rfl, rfl⟩ | exact ⟨rfl, rfl, rfl, rfl⟩); decide) | (apply rund_v; simp (disch := omega) [if_pos]; (first | rfl | exact ⟨rfl, rfl⟩ | exact ⟨rfl, rfl, rfl, rfl⟩); decide) | (apply run_conv; simp (disch := omega) [if_pos]; (first | rfl | exact ⟨rfl, rfl⟩ | exact ⟨rfl, rfl, rfl, rfl⟩); decide) | (apply rund_conv; simp (disch := omega) [if_pos]; (first | rfl | exact ⟨rfl, rfl⟩ | exact ⟨rfl, rfl, rfl, rfl⟩); decide) | (apply run_min; simp (disch := omega) [if_pos]; (first | rfl | exact ⟨rfl, rfl⟩ | exact ⟨rfl, rfl, rfl, rfl⟩); decide) | (apply rund_min; simp (disch := omega) [if_pos]; (first | rfl | exact ⟨rfl, rfl⟩ | exact ⟨rfl, rfl, rfl, rfl⟩); decide) | (apply run_max; simp (disch := omega) [if_pos]; (first | rfl | exact ⟨rfl, rfl⟩ | exact ⟨rfl, rfl, rfl, rfl⟩); decide) | (apply rund_max; simp (disch := omega) [if_pos]; (first | rfl | exact ⟨rfl, rfl⟩ | exact ⟨rfl, rfl, rfl, rfl⟩); decide) | (apply run_lenS; simp (disch := omega) [if_pos]; (first | rfl | exact ⟨rfl, rfl⟩ | exact ⟨rfl, rfl, rfl, rfl⟩); decide) | (apply rund_lenS; simp (disch := omega) [if_pos]; (first | rfl | exact ⟨rfl, rfl⟩ | exact ⟨rfl, rfl, rfl, rfl⟩); decide) | (apply run_bs; simp (disch := omega) [if_pos]; (first | rfl | exact ⟨rfl, rfl⟩ | exact ⟨rfl, rfl, rfl, rfl⟩); decide) | (apply run_app; simp (disch := omega) [if_pos]; (first | rfl | exact ⟨rfl, rfl⟩ | exact ⟨rfl, rfl, rfl, rfl⟩); decide) | (apply run_build; simp (disch := omega) [if_pos]; (first | rfl | exact ⟨rfl, rfl⟩ | exact ⟨rfl, rfl, rfl, rfl⟩); decide) | (apply run_box; simp (disch := omega) [if_pos]; (first | rfl | exact ⟨rfl, rfl⟩ | exact ⟨rfl, rfl, rfl, rfl⟩); decide) | (apply run_alloc; simp (disch := omega) [if_pos]; (first | rfl | exact ⟨rfl, rfl⟩ | exact ⟨rfl, rfl, rfl, rfl⟩); decide) | (apply rund_build; simp (disch := omega) [if_pos]; (first | rfl | exact ⟨rfl, rfl⟩ | exact ⟨rfl, rfl, rfl, rfl⟩); decide) | (apply run_sto; simp (disch := omega) [if_pos]; rfl) | (apply rund_bs; decide; simp (disch := omega) [if_pos]; (first | rfl | exact ⟨rfl, rfl⟩ | exact ⟨rfl, rfl, rfl, rfl⟩); decide) | (apply rund_app; decide; simp (disch := omega) [if_pos]; (first | rfl | exact ⟨rfl, rfl⟩ | exact ⟨rfl, rfl, rfl, rfl⟩); decide) | (apply rund_sto; decide; simp (disch := omega) [if_pos]; rfl))
    refine ended_r rfl (frz_int ?_)
    rw [orAcc_all hs, orAll_ents hM]
theorem tpPres_ok (gs : List G) (gl : List (Nat × List G)) (r : G) (h : tpPres gs gl = some r) : Fn' Tryz.prog gl 173 gs r ∧ Flat r ∧ callable Tryz.prog 173 = true := by
  unfold tpPres at h
  cases hl : Nat.beq gs.length 1 with
  | false => rw [hl] at h; cases h
  | true =>
  rw [hl] at h
  simp only [cond_true] at h
  split at h
  · rename_i s hsp
    split at h
    · rename_i vals hv
      have hfl : ∃ v, r = .lit v := by
        have h := h
        unfold presS at h
        revert h
        generalize (mlDyn Tryz.prog EM runM s vals pOps && gEqX 16 (fget (vals ++ s.fr) 3) (.lit (.int .i64 0)) && gEqX 16 (fget (vals ++ s.fr) 64) (.ref (s.c + 1) 0) && (pOps.filterMap (entOf (sAll s vals))).all entOk && Nat.beq s.n 75) = b
        intro h
        cases b with
        | true => cases h; exact ⟨_, rfl⟩
        | false => cases h
      obtain ⟨v, rfl⟩ := hfl
      refine ⟨fn_enter Tryz.func173 bodyP ?_ ?_, flat_lit _, by kernel_rfl⟩
      · rw [Nat.eq_of_beq_eq_true hl]
        simp [Tryz.ntmps173]
      · exact spine_tr runM_ok hsp (fun _ => pres_walk s vals _ h) (fun e => by cases e)
    · cases h
  · cases h
end Go.Proofs.YtfnglmepfjaimaaGreatDoor
