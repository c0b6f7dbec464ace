/- op.range1: its walk through a map, in any order; for the runner. -/
import Derived.Test.YtfnglmepfjaimaaGreatDoorHMp
namespace Go.Proofs.YtfnglmepfjaimaaGreatDoor
open Go.RowKit
set_option linter.unusedVariables false
set_option linter.unusedSimpArgs false
noncomputable def bdR : Code := (Tryz.f174.body).getD .skip
def nthR : Nat → Code → Code
  | 0, c => c
  | n + 1, c => nthR n (seqR c)
noncomputable def rP (n : Nat) : Code := seqL (nthR n bdR)
noncomputable def rM : Code := seqL (rP 6)
noncomputable def rL : Code := seqR (rP 6)
noncomputable def rR : Code := nthR 7 bdR
noncomputable def rOps : List Oper := regOps rM
theorem bodyR : Tryz.f174.body = some (seqs [rP 0, rP 1, rP 2, rP 3, rP 4, rP 5] (.seq (.seq rM rL) rR)) := by kernel_rfl
theorem rM_eq : rM = .region 10 rOps.toArray true := by kernel_rfl
theorem rStat : mlStat Tryz.prog 136 351 3 4 rOps 43 = true := by kernel_rfl
def bad (h : Nat) (q : Value × G) : Bool := !(Nat.beq (Nat.land h (mKey q.1)) 0) && !mHas q.2
def litB : G → Option Bool
  | .lit (.bool b) => some b
  | _ => none
theorem litB_spec {g : G} {b : Bool} (h : litB g = some b) : g = .lit (.bool b) := by
  unfold litB at h
  split at h
  · cases h; rfl
  · cases h
def litH : G → Option Nat
  | .lit (.int .i64 (.ofNat h)) => bif Nat.blt h 1048576 then some h else none
  | _ => none
theorem litH_spec {g : G} {h : Nat} (e : litH g = some h) : g = .lit (.int .i64 (.ofNat h)) ∧ h < 1048576 := by
  unfold litH at e
  split at e
  · rename_i h'
    cases hb : Nat.blt h' 1048576 with
    | false => rw [hb] at e; cases e
    | true =>
      rw [hb] at e
      cases e
      exact ⟨rfl, Nat.le_of_ble_eq_true hb⟩
  · cases e
/-- What is left behind the walk. -/
noncomputable def ranE (s : St) : St := { s with fr := kcut 9 s.fr, c := s.c + 2 }
noncomputable def ranS (s : St) (vals : Fr) : Option G := match litH (fget s.fr 1) with
  | some h => bif mlDyn Tryz.prog EM runM s vals rOps && gEqX 16 (fget (vals ++ s.fr) 91) (.ref (s.c + 1) 0) && (rOps.filterMap (entOf (sAll s vals))).all entOk && Nat.beq s.n 136 && (sget s.σ s.c).isNone && (sget s.σ (s.c + 1)).isNone then
      (bif (rOps.filterMap (entOf (sAll s vals))).any (bad h) then some (.lit (.bool false)) else (match runM rR (ranE s) noLow with
      | some [(.ret, s2, _)] => (litB (fget s2.fr 4)).map fun b => .lit (.bool b)
      | _ => none)) else none
  | none => none
noncomputable def tpRange (gs : List G) (gl : List (Nat × List G)) : Option G := bif Nat.beq gs.length 2 then (match spine runM [rP 0, rP 1, rP 2, rP 3, rP 4, rP 5] (St.enter Tryz.f174 gl gs) with
  | some (.normal, s) => (match mlFr Tryz.prog EM runM s.c rOps s [] with
    | some vals => ranS s vals
    | none => none)
  | some (.ret, s) => (litB (fget s.fr 4)).map fun b => .lit (.bool b)
  | _ => none) else none
theorem run_gT {P : Program} {ops : Array Oper} {K : St → Prop} {o : Oper} {rest : List Oper} {st st1 : St} (hw : gwant st ops o = some true) (hs : GS P o st st1) (h : Run P ops K rest st1) : Run P ops K (o :: rest) st := .inl ⟨hw, _, hs, h⟩
theorem run_gF {P : Program} {ops : Array Oper} {K : St → Prop} {o : Oper} {rest : List Oper} {st : St} (hw : gwant st ops o = some false) (hd : ∀ d, o.dst = some d → d < st.n) (h : Run P ops K rest (st.put o.dst (.lit undef))) : Run P ops K (o :: rest) st := .inr ⟨hw, hd, h⟩
attribute [local irreducible] Tr Run RunD GS TG Le Wk Frz Fn' ImmG Flat WkFr WkSt
def dstHi (o : Oper) : Bool := match o.dst with
  | some d => Nat.ble 9 d
  | none => true
theorem rDst : rOps.all dstHi = true := by kernel_rfl
theorem ranS_lit {s : St} {vals : Fr} {r : G} (h : ranS s vals = some r) : ∃ b, r = .lit (.bool b) := by
  unfold ranS at h
  split at h
  · revert h
    generalize (mlDyn Tryz.prog EM runM s vals rOps && gEqX 16 (fget (vals ++ s.fr) 91) (.ref (s.c + 1) 0) && (rOps.filterMap (entOf (sAll s vals))).all entOk && Nat.beq s.n 136 && (sget s.σ s.c).isNone && (sget s.σ (s.c + 1)).isNone) = b
    intro h
    cases b with
    | false => cases h
    | true =>
      simp only [cond_true] at h
      revert h
      generalize (rOps.filterMap (entOf (sAll s vals))).any (bad _) = b
      intro h
      cases b with
      | true => cases h; exact ⟨_, rfl⟩
      | false =>
        simp only [cond_false] at h
        split at h
        · simp only [Option.map_eq_some_iff] at h
          obtain ⟨b, _, rfl⟩ := h
          exact ⟨_, rfl⟩
        · cases h
  · cases h
theorem ran_end (n0 : Nat) (gl : List (Nat × List G)) (fr : Fr) (σ : Sto) (c p : Nat) (rr : Bool) (r : G) (h : (match runM rR (ranE ⟨n0, gl, fr, σ, c, p, rr⟩) noLow with
      | some [(.ret, s2, _)] => (litB (fget s2.fr 4)).map fun b => G.lit (.bool b)
      | _ => none) = some r) : Tr Tryz.prog rR (ranE ⟨n0, gl, fr, σ, c, p, rr⟩) (Ended Tryz.prog Tryz.f174 r) := by
  split at h
  · rename_i s2 lo hr
    simp only [Option.map_eq_some_iff] at h
    obtain ⟨b, hb, rfl⟩ := h
    refine (runM_ok.tr _ _ _ _ hr).mono fun e s3 hp => ?_
    obtain ⟨rfl, he⟩ := post_one hp
    refine ended_r (t := 4) rfl ?_
    rw [← he.fr, litB_spec hb]
    exact frz_imm (imm_lit _)
  · cases h
theorem and_wrap {a m : Nat} (ha : a < 1048576) (hm : m < 1048576) : IntKind.i64.wrap ((a % 2 ^ IntKind.i64.bits &&& m % 2 ^ IntKind.i64.bits : Nat) : Int) = ((a &&& m : Nat) : Int) := by
  have e1 : a % 2 ^ IntKind.i64.bits = a := Nat.mod_eq_of_lt (by show a < 2 ^ 64; omega)
  have e2 : m % 2 ^ IntKind.i64.bits = m := Nat.mod_eq_of_lt (by show m < 2 ^ 64; omega)
  have h2 : a &&& m ≤ a := Nat.and_le_left
  rw [e1, e2, w64 (by omega)]
set_option maxHeartbeats 2000000 in
theorem ran_walk (s : St) (vals : Fr) (r : G) (h : ranS s vals = some r) : Tr Tryz.prog (.seq (.seq rM rL) rR) s (Ended Tryz.prog Tryz.f174 r) := by
  obtain ⟨n0, gl, fr, σ, c, p, rr⟩ := s
  unfold ranS at h
  split at h
  rotate_left
  · cases h
  rename_i hh hlit
  obtain ⟨hl1, hh1⟩ := litH_spec hlit
  cases hc : (mlDyn Tryz.prog EM runM ⟨n0, gl, fr, σ, c, p, rr⟩ vals rOps && gEqX 16 (fget (vals ++ fr) 91) (.ref (c + 1) 0) && (rOps.filterMap (entOf (sAll ⟨n0, gl, fr, σ, c, p, rr⟩ vals))).all entOk && Nat.beq n0 136 && (sget σ c).isNone && (sget σ (c + 1)).isNone) with
  | false => rw [hc] at h; cases h
  | true =>
  rw [hc] at h
  simp only [cond_true] at h
  simp only [Bool.and_eq_true, List.all_eq_true] at hc
  obtain ⟨⟨⟨⟨⟨h1, h3⟩, h4⟩, h5⟩, h6⟩, h7⟩ := hc
  have h3 := gEqX_spec 16 _ _ h3
  obtain rfl := Nat.eq_of_beq_eq_true h5
  generalize hE : rOps.filterMap (entOf (sAll ⟨136, gl, fr, σ, c, p, rr⟩ vals)) = ents at h h4
  have hv : ∀ q ∈ vals, ∃ o ∈ rOps, dstTo o q.1 = true := by
    have h1 := h1
    unfold mlDyn at h1
    simp only [Bool.and_eq_true, List.all_eq_true, List.any_eq_true] at h1
    exact h1.1
  have hlow : ∀ i, i < 9 → fget (vals ++ fr) i = fget fr i := fun i hi => vals_out (st := ⟨136, gl, fr, σ, c, p, rr⟩) hv fun j hj => by
    have hj : (rOps[j]?).bind (·.dst) = some i := hj
    rw [Option.bind_eq_some_iff] at hj
    obtain ⟨o', ho', hd'⟩ := hj
    have := List.all_eq_true.1 rDst o' (List.mem_of_getElem? ho')
    unfold dstHi at this
    rw [hd'] at this
    have := Nat.le_of_ble_eq_true this
    omega
  have hfresh : ∀ i o, sget σ i = some o → i ≠ c ∧ i ≠ c + 1 := fun i o ho => ⟨(fun e => by rw [e] at ho; rw [ho] at h6; cases h6), (fun e => by rw [e] at ho; rw [ho] at h7; cases h7)⟩
  have hk1 : fget (kcut 9 fr) 1 = .lit (.int .i64 (.ofNat hh)) := by rw [fget_kcut, if_pos (by decide)]; exact hl1
  refine tr_seq (tr_seq ?_)
  rw [rM_eq]
  refine tr_maplit (E := EM) (run := runM) (st := ⟨136, gl, fr, σ, c, p, rr⟩) mixed runM_ok tpA_ok rStat h1 fun es clock hM => ?_
  rw [hE] at hM
  refine thn_n ?_
  unfold rL rP bdR Tryz.f174
  simp only [seqL, seqR, nthR, Option.getD_some]
  refine tr_mapwalk (it := 91) (a := 92) (b := 93) (iti := c + 1) (mi := c) (clock := clock) (since := clock) (T := 351) (ty := 351) (es := es)
    (S := fun seen => ⟨136, gl, (91, .ref (c + 1) 0) :: kcut 9 fr, (c + 1, some ⟨351, [], some (.iter (some c) clock seen clock)⟩) :: (c, some ⟨351, [], some (.map es clock)⟩) :: σ, c + 2, p, rr⟩) (fun seen => ∀ e ∈ es, e.2.2 ∈ seen → bad hh (e.1, e.2.1) = false) (fun e _ h => by cases h) hM.lt rfl ?_ (fun seen => ?_) (fun seen => ?_) (fun seen => ⟨show 92 < 136 by decide, show 93 < 136 by decide⟩) (fun seen k g n hI hm hn => ?_) (fun seen hI hs => ?_)
  · refine le_cut (st := ⟨136, gl, vals ++ fr, _, c + 2, p, rr⟩) (fun i => ?_) (fun i o h => h)
    rw [fget_cons]
    split
    · rename_i e; subst e; exact .inl h3.symm
    · rw [fget_kcut]
      split
      · rename_i hi; exact .inl (hlow i hi).symm
      · exact .inr rfl
  · simp [giter, gev, fget_cons, sget_cons]
  · simp [gmap, sget_cons]
  · obtain ⟨m, b, e1, e2, e3⟩ := entOk_spec (h4 _ (hM.sub _ hm))
    have e1 : k = _ := e1
    have e3 : g = _ := e3
    subst e1 e3
    clear e1 e3
    have hge : gentry ((c + 1, some ⟨351, [], some (.iter (some c) clock (seen ++ [n]) clock)⟩) :: (c + 1, some ⟨351, [], some (.iter (some c) clock seen clock)⟩) :: (c, some ⟨351, [], some (.map es clock)⟩) :: σ) (.ref (c + 1) 0) = some (.tup [glit (.int .i64 (.ofNat m)), .lit (.bool b)]) :=
      gentry_at (iti := c + 1) (mi := c) (since := clock) (clock := clock) (T := 351) (ty := 351) (seen := seen) (by simp [giter, sget_cons]) (by simp [gmap, sget_cons]) hM.nd hm
    dsimp only
    refine tr_block (tr_seq (tr_region (run_e rfl (gs_entry (g := .tup [glit (.int .i64 (.ofNat m)), .lit (.bool b)]) rfl (fun d e => by cases e; show 94 < 136; decide) ?_) ?_)))
    · exact hge
    simp only [St.put, glit_int]
    repeat' (first | apply tr_seq | apply tr_region | apply run_nil | apply thn_n | apply thn_e | apply thn_r | apply blk_e | apply blk_n | apply blk_r | (refine blk_ne ?_ ?_; decide) | apply tr_block | apply tr_skip | apply tr_label | apply tr_exit | apply tr_ret | (refine tr_region_draw (bars := []) mixed (by kernel_rfl) ?_) | apply rund_nil | (apply run_v; simp (disch := omega) [if_pos, hk1]; (first | rfl | exact ⟨rfl, rfl⟩ | exact ⟨rfl, rfl, rfl, rfl⟩); decide) | (apply rund_v; simp (disch := omega) [if_pos, hk1]; (first | rfl | exact ⟨rfl, rfl⟩ | exact ⟨rfl, rfl, rfl, rfl⟩); decide) | (apply run_conv; simp (disch := omega) [if_pos, hk1]; (first | rfl | exact ⟨rfl, rfl⟩ | exact ⟨rfl, rfl, rfl, rfl⟩); decide) | (apply rund_conv; simp (disch := omega) [if_pos, hk1]; (first | rfl | exact ⟨rfl, rfl⟩ | exact ⟨rfl, rfl, rfl, rfl⟩); decide) | (apply run_min; simp (disch := omega) [if_pos, hk1]; (first | rfl | exact ⟨rfl, rfl⟩ | exact ⟨rfl, rfl, rfl, rfl⟩); decide) | (apply rund_min; simp (disch := omega) [if_pos, hk1]; (first | rfl | exact ⟨rfl, rfl⟩ | exact ⟨rfl, rfl, rfl, rfl⟩); decide) | (apply run_max; simp (disch := omega) [if_pos, hk1]; (first | rfl | exact ⟨rfl, rfl⟩ | exact ⟨rfl, rfl, rfl, rfl⟩); decide) | (apply rund_max; simp (disch := omega) [if_pos, hk1]; (first | rfl | exact ⟨rfl, rfl⟩ | exact ⟨rfl, rfl, rfl, rfl⟩); decide) | (apply run_lenS; simp (disch := omega) [if_pos, hk1]; (first | rfl | exact ⟨rfl, rfl⟩ | exact ⟨rfl, rfl, rfl, rfl⟩); decide) | (apply rund_lenS; simp (disch := omega) [if_pos, hk1]; (first | rfl | exact ⟨rfl, rfl⟩ | exact ⟨rfl, rfl, rfl, rfl⟩); decide) | (apply run_bs; simp (disch := omega) [if_pos, hk1]; (first | rfl | exact ⟨rfl, rfl⟩ | exact ⟨rfl, rfl, rfl, rfl⟩); decide) | (apply run_app; simp (disch := omega) [if_pos, hk1]; (first | rfl | exact ⟨rfl, rfl⟩ | exact ⟨rfl, rfl, rfl, rfl⟩); decide) | (apply run_build; simp (disch := omega) [if_pos, hk1]; (first | rfl | exact ⟨rfl, rfl⟩ | exact ⟨rfl, rfl, rfl, rfl⟩); decide) | (apply run_box; simp (disch := omega) [if_pos, hk1]; (first | rfl | exact ⟨rfl, rfl⟩ | exact ⟨rfl, rfl, rfl, rfl⟩); decide) | (apply run_alloc; simp (disch := omega) [if_pos, hk1]; (first | rfl | exact ⟨rfl, rfl⟩ | exact ⟨rfl, rfl, rfl, rfl⟩); decide) | (apply rund_build; simp (disch := omega) [if_pos, hk1]; (first | rfl | exact ⟨rfl, rfl⟩ | exact ⟨rfl, rfl, rfl, rfl⟩); decide) | (apply run_sto; simp (disch := omega) [if_pos, hk1]; rfl) | (apply rund_bs; decide; simp (disch := omega) [if_pos, hk1]; (first | rfl | exact ⟨rfl, rfl⟩ | exact ⟨rfl, rfl, rfl, rfl⟩); decide) | (apply rund_app; decide; simp (disch := omega) [if_pos, hk1]; (first | rfl | exact ⟨rfl, rfl⟩ | exact ⟨rfl, rfl, rfl, rfl⟩); decide) | (apply rund_sto; decide; simp (disch := omega) [if_pos, hk1]; rfl))
    simp only [and_wrap hh1 e2]
    have hbad : bad hh (Value.int .i64 (.ofNat m), G.lit (.bool b)) = (!decide (((hh &&& m : Nat) : Int) = 0) && !b) := by
      unfold bad
      have : Nat.beq (Nat.land hh (mKey (.int .i64 (.ofNat m)))) 0 = decide (((hh &&& m : Nat) : Int) = 0) := by
        show Nat.beq (hh &&& m) 0 = _
        rw [Bool.eq_iff_iff, decide_eq_true_iff]
        constructor
        · intro h; rw [Nat.eq_of_beq_eq_true h]; rfl
        · intro h
          have h0 : hh &&& m = 0 := by omega
          rw [h0]; rfl
      rw [this]
      cases b <;> rfl
    generalize hz : (!decide (((hh &&& m : Nat) : Int) = 0)) = z at hbad ⊢
    have next : bad hh (Value.int .i64 (.ofNat m), G.lit (.bool b)) = false → ∀ e ∈ es, e.2.2 ∈ seen ++ [n] → bad hh (e.1, e.2.1) = false := by
      intro hb e he hs
      rcases List.mem_append.1 hs with hs | hs
      · exact hI e he hs
      · have hs := List.mem_singleton.1 hs
        have h1 := find_born hM.nd hm
        have h2 := find_born (k := e.1) (g := e.2.1) (n := n) hM.nd (by rw [← hs]; exact he)
        rw [h1] at h2
        simp only [Option.some.injEq, Prod.mk.injEq] at h2
        rw [← h2.1, ← h2.2.1]
        exact hb
    have same : ∀ {fr' : Fr} {σ' : Sto}, (∀ i, i < 9 → fget fr' i = fget (kcut 9 fr) i) → fget fr' 91 = .ref (c + 1) 0 → σ' = (c + 1, some ⟨351, [], some (.iter (some c) clock (seen ++ [n]) clock)⟩) :: (c + 1, some ⟨351, [], some (.iter (some c) clock seen clock)⟩) :: (c, some ⟨351, [], some (.map es clock)⟩) :: σ → Le Tryz.prog ⟨136, gl, fr', σ', c + 2, p, rr⟩ ⟨136, gl, (91, .ref (c + 1) 0) :: kcut 9 fr, (c + 1, some ⟨351, [], some (.iter (some c) clock (seen ++ [n]) clock)⟩) :: (c, some ⟨351, [], some (.map es clock)⟩) :: σ, c + 2, p, rr⟩ := by
      rintro fr' σ' f1 f2 rfl
      refine le_cut (st := ⟨136, gl, fr', _, c + 2, p, rr⟩) (fun i => ?_) (fun i o ho => ?_)
      · rw [fget_cons]
        split
        · rename_i e; subst e; exact .inl f2.symm
        · rcases Nat.lt_or_ge i 9 with hi | hi
          · exact .inl (f1 i hi).symm
          · rw [fget_kcut, if_neg (by omega)]; exact .inr rfl
      · rw [sget_cons] at ho
        rw [sget_cons, sget_cons]
        split at ho
        · rename_i e; rw [if_pos e]; exact ho
        · rename_i e
          rw [if_neg e, if_neg e]
          exact ho
    cases z with
    | true =>
      refine run_gT rfl (gs_val (g := .lit (.bool b)) (fun d e => by cases e; show 102 < 136; decide) rfl) ?_
      simp only [St.put]
      refine run_gT rfl (gs_val (g := .lit (.bool !b)) (fun d e => by cases e; show 103 < 136; decide) (by simp)) ?_
      simp only [St.put]
      repeat' (first | apply tr_seq | apply tr_region | apply run_nil | apply thn_n | apply thn_e | apply thn_r | apply blk_e | apply blk_n | apply blk_r | (refine blk_ne ?_ ?_; decide) | apply tr_block | apply tr_skip | apply tr_label | apply tr_exit | apply tr_ret | (refine tr_region_draw (bars := []) mixed (by kernel_rfl) ?_) | apply rund_nil | (apply run_v; simp (disch := omega) [if_pos]; (first | rfl | exact ⟨rfl, rfl⟩ | exact ⟨rfl, rfl, rfl, rfl⟩); decide) | (apply rund_v; simp (disch := omega) [if_pos]; (first | rfl | exact ⟨rfl, rfl⟩ | exact ⟨rfl, rfl, rfl, rfl⟩); decide) | (apply run_conv; simp (disch := omega) [if_pos]; (first | rfl | exact ⟨rfl, rfl⟩ | exact ⟨rfl, rfl, rfl, rfl⟩); decide) | (apply rund_conv; simp (disch := omega) [if_pos]; (first | rfl | exact ⟨rfl, rfl⟩ | exact ⟨rfl, rfl, rfl, rfl⟩); decide) | (apply run_min; simp (disch := omega) [if_pos]; (first | rfl | exact ⟨rfl, rfl⟩ | exact ⟨rfl, rfl, rfl, rfl⟩); decide) | (apply rund_min; simp (disch := omega) [if_pos]; (first | rfl | exact ⟨rfl, rfl⟩ | exact ⟨rfl, rfl, rfl, rfl⟩); decide) | (apply run_max; simp (disch := omega) [if_pos]; (first | rfl | exact ⟨rfl, rfl⟩ | exact ⟨rfl, rfl, rfl, rfl⟩); decide) | (apply rund_max; simp (disch := omega) [if_pos]; (first | rfl | exact ⟨rfl, rfl⟩ | exact ⟨rfl, rfl, rfl, rfl⟩); decide) | (apply run_lenS; simp (disch := omega) [if_pos]; (first | rfl | exact ⟨rfl, rfl⟩ | exact ⟨rfl, rfl, rfl, rfl⟩); decide) | (apply rund_lenS; simp (disch := omega) [if_pos]; (first | rfl | exact ⟨rfl, rfl⟩ | exact ⟨rfl, rfl, rfl, rfl⟩); decide) | (apply run_bs; simp (disch := omega) [if_pos]; (first | rfl | exact ⟨rfl, rfl⟩ | exact ⟨rfl, rfl, rfl, rfl⟩); decide) | (apply run_app; simp (disch := omega) [if_pos]; (first | rfl | exact ⟨rfl, rfl⟩ | exact ⟨rfl, rfl, rfl, rfl⟩); decide) | (apply run_build; simp (disch := omega) [if_pos]; (first | rfl | exact ⟨rfl, rfl⟩ | exact ⟨rfl, rfl, rfl, rfl⟩); decide) | (apply run_box; simp (disch := omega) [if_pos]; (first | rfl | exact ⟨rfl, rfl⟩ | exact ⟨rfl, rfl, rfl, rfl⟩); decide) | (apply run_alloc; simp (disch := omega) [if_pos]; (first | rfl | exact ⟨rfl, rfl⟩ | exact ⟨rfl, rfl, rfl, rfl⟩); decide) | (apply rund_build; simp (disch := omega) [if_pos]; (first | rfl | exact ⟨rfl, rfl⟩ | exact ⟨rfl, rfl, rfl, rfl⟩); decide) | (apply run_sto; simp (disch := omega) [if_pos]; rfl) | (apply rund_bs; decide; simp (disch := omega) [if_pos]; (first | rfl | exact ⟨rfl, rfl⟩ | exact ⟨rfl, rfl, rfl, rfl⟩); decide) | (apply rund_app; decide; simp (disch := omega) [if_pos]; (first | rfl | exact ⟨rfl, rfl⟩ | exact ⟨rfl, rfl, rfl, rfl⟩); decide) | (apply rund_sto; decide; simp (disch := omega) [if_pos]; rfl))
      cases b with
      | true =>
        refine tr_condF (by simp) ?_
        repeat' (first | apply tr_seq | apply tr_region | apply run_nil | apply thn_n | apply thn_e | apply thn_r | apply blk_e | apply blk_n | apply blk_r | (refine blk_ne ?_ ?_; decide) | apply tr_block | apply tr_skip | apply tr_label | apply tr_exit | apply tr_ret | (refine tr_region_draw (bars := []) mixed (by kernel_rfl) ?_) | apply rund_nil | (apply run_v; simp (disch := omega) [if_pos]; (first | rfl | exact ⟨rfl, rfl⟩ | exact ⟨rfl, rfl, rfl, rfl⟩); decide) | (apply rund_v; simp (disch := omega) [if_pos]; (first | rfl | exact ⟨rfl, rfl⟩ | exact ⟨rfl, rfl, rfl, rfl⟩); decide) | (apply run_conv; simp (disch := omega) [if_pos]; (first | rfl | exact ⟨rfl, rfl⟩ | exact ⟨rfl, rfl, rfl, rfl⟩); decide) | (apply rund_conv; simp (disch := omega) [if_pos]; (first | rfl | exact ⟨rfl, rfl⟩ | exact ⟨rfl, rfl, rfl, rfl⟩); decide) | (apply run_min; simp (disch := omega) [if_pos]; (first | rfl | exact ⟨rfl, rfl⟩ | exact ⟨rfl, rfl, rfl, rfl⟩); decide) | (apply rund_min; simp (disch := omega) [if_pos]; (first | rfl | exact ⟨rfl, rfl⟩ | exact ⟨rfl, rfl, rfl, rfl⟩); decide) | (apply run_max; simp (disch := omega) [if_pos]; (first | rfl | exact ⟨rfl, rfl⟩ | exact ⟨rfl, rfl, rfl, rfl⟩); decide) | (apply rund_max; simp (disch := omega) [if_pos]; (first | rfl | exact ⟨rfl, rfl⟩ | exact ⟨rfl, rfl, rfl, rfl⟩); decide) | (apply run_lenS; simp (disch := omega) [if_pos]; (first | rfl | exact ⟨rfl, rfl⟩ | exact ⟨rfl, rfl, rfl, rfl⟩); decide) | (apply rund_lenS; simp (disch := omega) [if_pos]; (first | rfl | exact ⟨rfl, rfl⟩ | exact ⟨rfl, rfl, rfl, rfl⟩); decide) | (apply run_bs; simp (disch := omega) [if_pos]; (first | rfl | exact ⟨rfl, rfl⟩ | exact ⟨rfl, rfl, rfl, rfl⟩); decide) | (apply run_app; simp (disch := omega) [if_pos]; (first | rfl | exact ⟨rfl, rfl⟩ | exact ⟨rfl, rfl, rfl, rfl⟩); decide) | (apply run_build; simp (disch := omega) [if_pos]; (first | rfl | exact ⟨rfl, rfl⟩ | exact ⟨rfl, rfl, rfl, rfl⟩); decide) | (apply run_box; simp (disch := omega) [if_pos]; (first | rfl | exact ⟨rfl, rfl⟩ | exact ⟨rfl, rfl, rfl, rfl⟩); decide) | (apply run_alloc; simp (disch := omega) [if_pos]; (first | rfl | exact ⟨rfl, rfl⟩ | exact ⟨rfl, rfl, rfl, rfl⟩); decide) | (apply rund_build; simp (disch := omega) [if_pos]; (first | rfl | exact ⟨rfl, rfl⟩ | exact ⟨rfl, rfl, rfl, rfl⟩); decide) | (apply run_sto; simp (disch := omega) [if_pos]; rfl) | (apply rund_bs; decide; simp (disch := omega) [if_pos]; (first | rfl | exact ⟨rfl, rfl⟩ | exact ⟨rfl, rfl, rfl, rfl⟩); decide) | (apply rund_app; decide; simp (disch := omega) [if_pos]; (first | rfl | exact ⟨rfl, rfl⟩ | exact ⟨rfl, rfl, rfl, rfl⟩); decide) | (apply rund_sto; decide; simp (disch := omega) [if_pos]; rfl))
        refine ⟨next (by rw [hbad]; rfl), same (fun i hi => ?_) ?_ rfl⟩
        · simp only [fget_cons]
          repeat rw [if_neg (by omega)]
        · simp [fget_cons]
      | false =>
        refine tr_condT (by simp) ?_
        repeat' (first | apply tr_seq | apply tr_region | apply run_nil | apply thn_n | apply thn_e | apply thn_r | apply blk_e | apply blk_n | apply blk_r | (refine blk_ne ?_ ?_; decide) | apply tr_block | apply tr_skip | apply tr_label | apply tr_exit | apply tr_ret | (refine tr_region_draw (bars := []) mixed (by kernel_rfl) ?_) | apply rund_nil | (apply run_v; simp (disch := omega) [if_pos]; (first | rfl | exact ⟨rfl, rfl⟩ | exact ⟨rfl, rfl, rfl, rfl⟩); decide) | (apply rund_v; simp (disch := omega) [if_pos]; (first | rfl | exact ⟨rfl, rfl⟩ | exact ⟨rfl, rfl, rfl, rfl⟩); decide) | (apply run_conv; simp (disch := omega) [if_pos]; (first | rfl | exact ⟨rfl, rfl⟩ | exact ⟨rfl, rfl, rfl, rfl⟩); decide) | (apply rund_conv; simp (disch := omega) [if_pos]; (first | rfl | exact ⟨rfl, rfl⟩ | exact ⟨rfl, rfl, rfl, rfl⟩); decide) | (apply run_min; simp (disch := omega) [if_pos]; (first | rfl | exact ⟨rfl, rfl⟩ | exact ⟨rfl, rfl, rfl, rfl⟩); decide) | (apply rund_min; simp (disch := omega) [if_pos]; (first | rfl | exact ⟨rfl, rfl⟩ | exact ⟨rfl, rfl, rfl, rfl⟩); decide) | (apply run_max; simp (disch := omega) [if_pos]; (first | rfl | exact ⟨rfl, rfl⟩ | exact ⟨rfl, rfl, rfl, rfl⟩); decide) | (apply rund_max; simp (disch := omega) [if_pos]; (first | rfl | exact ⟨rfl, rfl⟩ | exact ⟨rfl, rfl, rfl, rfl⟩); decide) | (apply run_lenS; simp (disch := omega) [if_pos]; (first | rfl | exact ⟨rfl, rfl⟩ | exact ⟨rfl, rfl, rfl, rfl⟩); decide) | (apply rund_lenS; simp (disch := omega) [if_pos]; (first | rfl | exact ⟨rfl, rfl⟩ | exact ⟨rfl, rfl, rfl, rfl⟩); decide) | (apply run_bs; simp (disch := omega) [if_pos]; (first | rfl | exact ⟨rfl, rfl⟩ | exact ⟨rfl, rfl, rfl, rfl⟩); decide) | (apply run_app; simp (disch := omega) [if_pos]; (first | rfl | exact ⟨rfl, rfl⟩ | exact ⟨rfl, rfl, rfl, rfl⟩); decide) | (apply run_build; simp (disch := omega) [if_pos]; (first | rfl | exact ⟨rfl, rfl⟩ | exact ⟨rfl, rfl, rfl, rfl⟩); decide) | (apply run_box; simp (disch := omega) [if_pos]; (first | rfl | exact ⟨rfl, rfl⟩ | exact ⟨rfl, rfl, rfl, rfl⟩); decide) | (apply run_alloc; simp (disch := omega) [if_pos]; (first | rfl | exact ⟨rfl, rfl⟩ | exact ⟨rfl, rfl, rfl, rfl⟩); decide) | (apply rund_build; simp (disch := omega) [if_pos]; (first | rfl | exact ⟨rfl, rfl⟩ | exact ⟨rfl, rfl, rfl, rfl⟩); decide) | (apply run_sto; simp (disch := omega) [if_pos]; rfl) | (apply rund_bs; decide; simp (disch := omega) [if_pos]; (first | rfl | exact ⟨rfl, rfl⟩ | exact ⟨rfl, rfl, rfl, rfl⟩); decide) | (apply rund_app; decide; simp (disch := omega) [if_pos]; (first | rfl | exact ⟨rfl, rfl⟩ | exact ⟨rfl, rfl, rfl, rfl⟩); decide) | (apply rund_sto; decide; simp (disch := omega) [if_pos]; rfl))
        have : ents.any (bad hh) = true := List.any_eq_true.2 ⟨_, hM.sub _ hm, by rw [hbad]; rfl⟩
        rw [this] at h
        cases h
        refine ended_r (t := 4) rfl (frz_bool ?_)
        rfl
    | false =>
      refine run_gF rfl (fun d e => by cases e; show 102 < 136; decide) ?_
      simp only [St.put]
      refine run_gF rfl (fun d e => by cases e; show 103 < 136; decide) ?_
      simp only [St.put]
      repeat' (first | apply tr_seq | apply tr_region | apply run_nil | apply thn_n | apply thn_e | apply thn_r | apply blk_e | apply blk_n | apply blk_r | (refine blk_ne ?_ ?_; decide) | apply tr_block | apply tr_skip | apply tr_label | apply tr_exit | apply tr_ret | (refine tr_region_draw (bars := []) mixed (by kernel_rfl) ?_) | apply rund_nil | (apply run_v; simp (disch := omega) [if_pos]; (first | rfl | exact ⟨rfl, rfl⟩ | exact ⟨rfl, rfl, rfl, rfl⟩); decide) | (apply rund_v; simp (disch := omega) [if_pos]; (first | rfl | exact ⟨rfl, rfl⟩ | exact ⟨rfl, rfl, rfl, rfl⟩); decide) | (apply run_conv; simp (disch := omega) [if_pos]; (first | rfl | exact ⟨rfl, rfl⟩ | exact ⟨rfl, rfl, rfl, rfl⟩); decide) | (apply rund_conv; simp (disch := omega) [if_pos]; (first | rfl | exact ⟨rfl, rfl⟩ | exact ⟨rfl, rfl, rfl, rfl⟩); decide) | (apply run_min; simp (disch := omega) [if_pos]; (first | rfl | exact ⟨rfl, rfl⟩ | exact ⟨rfl, rfl, rfl, rfl⟩); decide) | (apply rund_min; simp (disch := omega) [if_pos]; (first | rfl | exact ⟨rfl, rfl⟩ | exact ⟨rfl, rfl, rfl, rfl⟩); decide) | (apply run_max; simp (disch := omega) [if_pos]; (first | rfl | exact ⟨rfl, rfl⟩ | exact ⟨rfl, rfl, rfl, rfl⟩); decide) | (apply rund_max; simp (disch := omega) [if_pos]; (first | rfl | exact ⟨rfl, rfl⟩ | exact ⟨rfl, rfl, rfl, rfl⟩); decide) | (apply run_lenS; simp (disch := omega) [if_pos]; (first | rfl | exact ⟨rfl, rfl⟩ | exact ⟨rfl, rfl, rfl, rfl⟩); decide) | (apply rund_lenS; simp (disch := omega) [if_pos]; (first | rfl | exact ⟨rfl, rfl⟩ | exact ⟨rfl, rfl, rfl, rfl⟩); decide) | (apply run_bs; simp (disch := omega) [if_pos]; (first | rfl | exact ⟨rfl, rfl⟩ | exact ⟨rfl, rfl, rfl, rfl⟩); decide) | (apply run_app; simp (disch := omega) [if_pos]; (first | rfl | exact ⟨rfl, rfl⟩ | exact ⟨rfl, rfl, rfl, rfl⟩); decide) | (apply run_build; simp (disch := omega) [if_pos]; (first | rfl | exact ⟨rfl, rfl⟩ | exact ⟨rfl, rfl, rfl, rfl⟩); decide) | (apply run_box; simp (disch := omega) [if_pos]; (first | rfl | exact ⟨rfl, rfl⟩ | exact ⟨rfl, rfl, rfl, rfl⟩); decide) | (apply run_alloc; simp (disch := omega) [if_pos]; (first | rfl | exact ⟨rfl, rfl⟩ | exact ⟨rfl, rfl, rfl, rfl⟩); decide) | (apply rund_build; simp (disch := omega) [if_pos]; (first | rfl | exact ⟨rfl, rfl⟩ | exact ⟨rfl, rfl, rfl, rfl⟩); decide) | (apply run_sto; simp (disch := omega) [if_pos]; rfl) | (apply rund_bs; decide; simp (disch := omega) [if_pos]; (first | rfl | exact ⟨rfl, rfl⟩ | exact ⟨rfl, rfl, rfl, rfl⟩); decide) | (apply rund_app; decide; simp (disch := omega) [if_pos]; (first | rfl | exact ⟨rfl, rfl⟩ | exact ⟨rfl, rfl, rfl, rfl⟩); decide) | (apply rund_sto; decide; simp (disch := omega) [if_pos]; rfl))
      refine tr_condF (by simp) ?_
      repeat' (first | apply tr_seq | apply tr_region | apply run_nil | apply thn_n | apply thn_e | apply thn_r | apply blk_e | apply blk_n | apply blk_r | (refine blk_ne ?_ ?_; decide) | apply tr_block | apply tr_skip | apply tr_label | apply tr_exit | apply tr_ret | (refine tr_region_draw (bars := []) mixed (by kernel_rfl) ?_) | apply rund_nil | (apply run_v; simp (disch := omega) [if_pos]; (first | rfl | exact ⟨rfl, rfl⟩ | exact ⟨rfl, rfl, rfl, rfl⟩); decide) | (apply rund_v; simp (disch := omega) [if_pos]; (first | rfl | exact ⟨rfl, rfl⟩ | exact ⟨rfl, rfl, rfl, rfl⟩); decide) | (apply run_conv; simp (disch := omega) [if_pos]; (first | rfl | exact ⟨rfl, rfl⟩ | exact ⟨rfl, rfl, rfl, rfl⟩); decide) | (apply rund_conv; simp (disch := omega) [if_pos]; (first | rfl | exact ⟨rfl, rfl⟩ | exact ⟨rfl, rfl, rfl, rfl⟩); decide) | (apply run_min; simp (disch := omega) [if_pos]; (first | rfl | exact ⟨rfl, rfl⟩ | exact ⟨rfl, rfl, rfl, rfl⟩); decide) | (apply rund_min; simp (disch := omega) [if_pos]; (first | rfl | exact ⟨rfl, rfl⟩ | exact ⟨rfl, rfl, rfl, rfl⟩); decide) | (apply run_max; simp (disch := omega) [if_pos]; (first | rfl | exact ⟨rfl, rfl⟩ | exact ⟨rfl, rfl, rfl, rfl⟩); decide) | (apply rund_max; simp (disch := omega) [if_pos]; (first | rfl | exact ⟨rfl, rfl⟩ | exact ⟨rfl, rfl, rfl, rfl⟩); decide) | (apply run_lenS; simp (disch := omega) [if_pos]; (first | rfl | exact ⟨rfl, rfl⟩ | exact ⟨rfl, rfl, rfl, rfl⟩); decide) | (apply rund_lenS; simp (disch := omega) [if_pos]; (first | rfl | exact ⟨rfl, rfl⟩ | exact ⟨rfl, rfl, rfl, rfl⟩); decide) | (apply run_bs; simp (disch := omega) [if_pos]; (first | rfl | exact ⟨rfl, rfl⟩ | exact ⟨rfl, rfl, rfl, rfl⟩); decide) | (apply run_app; simp (disch := omega) [if_pos]; (first | rfl | exact ⟨rfl, rfl⟩ | exact ⟨rfl, rfl, rfl, rfl⟩); decide) | (apply run_build; simp (disch := omega) [if_pos]; (first | rfl | exact ⟨rfl, rfl⟩ | exact ⟨rfl, rfl, rfl, rfl⟩); decide) | (apply run_box; simp (disch := omega) [if_pos]; (first | rfl | exact ⟨rfl, rfl⟩ | exact ⟨rfl, rfl, rfl, rfl⟩); decide) | (apply run_alloc; simp (disch := omega) [if_pos]; (first | rfl | exact ⟨rfl, rfl⟩ | exact ⟨rfl, rfl, rfl, rfl⟩); decide) | (apply rund_build; simp (disch := omega) [if_pos]; (first | rfl | exact ⟨rfl, rfl⟩ | exact ⟨rfl, rfl, rfl, rfl⟩); decide) | (apply run_sto; simp (disch := omega) [if_pos]; rfl) | (apply rund_bs; decide; simp (disch := omega) [if_pos]; (first | rfl | exact ⟨rfl, rfl⟩ | exact ⟨rfl, rfl, rfl, rfl⟩); decide) | (apply rund_app; decide; simp (disch := omega) [if_pos]; (first | rfl | exact ⟨rfl, rfl⟩ | exact ⟨rfl, rfl, rfl, rfl⟩); decide) | (apply rund_sto; decide; simp (disch := omega) [if_pos]; rfl))
      refine ⟨next (by rw [hbad]; rfl), same (fun i hi => ?_) ?_ rfl⟩
      · simp only [fget_cons]
        repeat rw [if_neg (by omega)]
      · simp [fget_cons]
  · have hno : ents.any (bad hh) = false := by
      cases ha : ents.any (bad hh) with
      | false => rfl
      | true =>
        obtain ⟨q, hq, hb⟩ := List.any_eq_true.1 ha
        obtain ⟨n, hn⟩ := hM.sup q hq
        rw [hI _ hn (hs _ hn)] at hb
        cases hb
    rw [hno] at h
    simp only [cond_false] at h
    refine thn_n ((ran_end 136 gl fr σ c p rr r h).le ?_)
    refine le_cut (st := ⟨136, gl, _, _, c + 2, p, rr⟩) (fun i => ?_) (fun i o ho => ?_)
    · rw [fget_kcut]
      split
      · rename_i hi
        left
        rw [fget_cons, if_neg (by omega), fget_cons, if_neg (by omega), fget_cons, if_neg (by omega), fget_kcut, if_pos hi]
      · exact .inr rfl
    · obtain ⟨f1, f2⟩ := hfresh i o ho
      rw [sget_cons, if_neg (fun e => f2 e.symm), sget_cons, if_neg (fun e => f1 e.symm)]
      exact ho
theorem tpRange_ok (gs : List G) (gl : List (Nat × List G)) (r : G) (h : tpRange gs gl = some r) : Fn' Tryz.prog gl 174 gs r ∧ Flat r ∧ callable Tryz.prog 174 = true := by
  unfold tpRange at h
  cases hl : Nat.beq gs.length 2 with
  | false => rw [hl] at h; cases h
  | true =>
  rw [hl] at h
  simp only [cond_true] at h
  have hlen : gs.length ≤ Tryz.f174.ntmps := by
    rw [Nat.eq_of_beq_eq_true hl]
    simp [Tryz.ntmps174]
  split at h
  · rename_i s hsp
    split at h
    · rename_i vals hv
      obtain ⟨b, rfl⟩ := ranS_lit h
      exact ⟨fn_enter Tryz.func174 bodyR hlen (spine_tr runM_ok hsp (fun _ => ran_walk s vals _ h) (fun e => by cases e)), flat_lit _, by kernel_rfl⟩
    · cases h
  · rename_i s hsp
    simp only [Option.map_eq_some_iff] at h
    obtain ⟨b, hb, rfl⟩ := h
    refine ⟨fn_enter Tryz.func174 bodyR hlen (spine_tr runM_ok hsp (fun e => by cases e) (fun _ s2 he => ?_)), flat_lit _, by kernel_rfl⟩
    refine ended_r (t := 4) rfl ?_
    rw [← he.fr, litB_spec hb]
    exact frz_imm (imm_lit _)
  · cases h
/-- What is known of both, over a table. -/
noncomputable def tpM (tp : XPure) : XPure := fun fid gs gl => bif Nat.beq fid 173 then tpPres gs gl else bif Nat.beq fid 174 then tpRange gs gl else tp fid gs gl
theorem tpM_ok {tp : XPure} (h : PureOk Tryz.prog tp) : PureOk Tryz.prog (tpM tp) := by
  intro fid gs gl r e
  unfold tpM at e
  cases h1 : Nat.beq fid 173 with
  | true =>
    rw [h1] at e
    obtain rfl := Nat.eq_of_beq_eq_true h1
    exact tpPres_ok gs gl r e
  | false =>
    rw [h1] at e
    simp only [cond_false] at e
    cases h2 : Nat.beq fid 174 with
    | true =>
      rw [h2] at e
      obtain rfl := Nat.eq_of_beq_eq_true h2
      exact tpRange_ok gs gl r e
    | false =>
      rw [h2] at e
      exact h fid gs gl r e
end Go.Proofs.YtfnglmepfjaimaaGreatDoor
