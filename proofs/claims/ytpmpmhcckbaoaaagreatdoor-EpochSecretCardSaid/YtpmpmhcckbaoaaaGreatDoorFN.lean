/- A walk through a map, in any order: the loop, once for any map. -/
import Derived.Test.YtpmpmhcckbaoaaaGreatDoorFM
import Derived.Test.YtpmpmhcckbaoaaaGreatDoorPP
namespace Go.Proofs.YtpmpmhcckbaoaaaGreatDoor
open Go.RowKit
set_option linter.unusedVariables false
section
variable {P : Program}
theorem left_less {es : Ents} {seen : List Nat} {k : Value} {g : G} {n : Nat} (h : (k, g, n) ∈ es) (hn : n ∉ seen) : (es.filter fun e => !(seen ++ [n]).contains e.2.2).length < (es.filter fun e => !seen.contains e.2.2).length := by
  induction es with
  | nil => cases h
  | cons e r ih =>
    have mono : ∀ (r : Ents), (r.filter fun e => !(seen ++ [n]).contains e.2.2).length ≤ (r.filter fun e => !seen.contains e.2.2).length := by
      intro r
      induction r with
      | nil => exact Nat.le_refl _
      | cons x s ih =>
        rw [List.filter_cons, List.filter_cons, contains_add]
        cases hs : seen.contains x.2.2 with
        | true => simp only [Bool.true_or, Bool.not_true]; exact ih
        | false =>
          cases hx : (x.2.2 == n) with
          | true => simp only [Bool.or_true, Bool.not_true, Bool.not_false]; exact Nat.le_succ_of_le ih
          | false => simp only [Bool.or_false, Bool.not_false]; exact Nat.succ_le_succ ih
    rw [List.filter_cons, List.filter_cons, contains_add]
    rcases List.mem_cons.1 h with rfl | h
    · have hs : seen.contains n = false := by
        cases hc : seen.contains n with
        | false => rfl
        | true => exact absurd (by simpa using hc) hn
      simp only [hs, BEq.rfl, Bool.or_true, Bool.not_true, Bool.not_false]
      exact Nat.lt_succ_of_le (mono r)
    · have := ih h
      cases hs : seen.contains e.2.2 with
      | true => simp only [Bool.true_or, Bool.not_true]; exact this
      | false =>
        cases hx : (e.2.2 == n) with
        | true => simp only [Bool.or_true, Bool.not_true, Bool.not_false]; exact Nat.lt_succ_of_lt this
        | false => simp only [Bool.or_false, Bool.not_false]; exact Nat.succ_lt_succ this
theorem tr_mapwalk {it a b iti mi clock since id b0 : Nat} {T ty ty1 ty2 : TypeId} {pos1 pos2 : String} {af1 af2 : Array Edge} {bd : Code} {es : Ents} {S : List Nat → St} {st : St} {Q : Exit → St → Prop} (I : List Nat → Prop) (hI : I [])
    (hlt : ∀ e ∈ es, e.2.2 < clock) (hsince : since = clock) (h0 : Le P st (S [])) (hit : ∀ seen, giter (S seen).σ (gev (S seen) (.tmp it)) = some (iti, T, some mi, since, seen, clock)) (hmap : ∀ seen, gmap (S seen).σ (.mref mi) = some (mi, ty, es, clock))
    (hn : ∀ seen, a < (S seen).n ∧ b < (S seen).n)
    (body : ∀ seen k g n, I seen → (k, g, n) ∈ es → n ∉ seen → Tr P bd { S seen with fr := (b, .lit (.bool true)) :: (a, .tup [.lit (.bool true), glit k, g]) :: (S seen).fr, σ := (iti, some ⟨T, [], some (.iter (some mi) since (seen ++ [n]) clock)⟩) :: (S seen).σ } (Thn (fun s => I (seen ++ [n]) ∧ Le P s (S (seen ++ [n]))) (Blk' b0 Q)))
    (fin : ∀ seen, I seen → (∀ e ∈ es, e.2.2 ∈ seen) → Q .normal { S seen with fr := (b, .lit (.bool false)) :: (a, .tup [.lit (.bool false)]) :: (S seen).fr }) :
    Tr P (.block b0 (.loop (.seq (.region id #[⟨some a, .next (.tmp it) false, ty1, pos1, af1, none⟩, ⟨some b, .extract (.tmp a) 0, ty2, pos2, af2, none⟩] false) (.seq (.cond (.tmp b) .skip (.exit b0)) bd)))) st Q := by
  refine tr_block (tr_loop (fun q : {seen : List Nat // I seen} => S q.1) (fun q => (es.filter fun e => !q.1.contains e.2.2).length) ⟨[], hI⟩ h0 fun ⟨seen, hse⟩ => ?_)
  dsimp only
  have hok : gnextOk es seen clock = true := by
    unfold gnextOk
    cases es with
    | nil => simp
    | cons e r =>
      have := hlt e (by simp)
      simp only [List.isEmpty_cons, List.all_cons, show decide (e.2.2 ≥ clock) = false from decide_eq_false (by omega), Bool.false_and, Bool.and_false, Bool.not_false]
  refine tr_seq (tr_regionN (l := [⟨some a, .next (.tmp it) false, ty1, pos1, af1, none⟩, ⟨some b, .extract (.tmp a) 0, ty2, pos2, af2, none⟩]) (.inl ⟨rfl, ?_⟩))
  refine (gs_next rfl (fun d e => by cases e; exact (hn seen).1) (hit seen) (hmap seen) hok).eqv fun s hs => ⟨s, ?_, Eqv.refl _⟩
  have ext : ∀ (g : G) (r : List G) (s1 : St), s1.n = (S seen).n → fget s1.fr a = .tup (g :: r) → ∀ {K : St → Prop}, K (s1.put (some b) g) → RunN P #[⟨some a, .next (.tmp it) false, ty1, pos1, af1, none⟩, ⟨some b, .extract (.tmp a) 0, ty2, pos2, af2, none⟩] K [⟨some b, .extract (.tmp a) 0, ty2, pos2, af2, none⟩] s1 := by
    intro g r s1 h1 h2 K hK
    refine .inl ⟨rfl, ((gs_val (g := g) (fun d e => by cases e; rw [h1]; exact (hn seen).2) ?_).gsn).eqv fun s2 hs2 => ⟨s2, by rw [hs2]; exact hK, Eqv.refl _⟩⟩
    rw [ev_extract]
    show gextract 0 (fget s1.fr a) = some g
    rw [h2]
    rfl
  rcases hs with ⟨hc, rfl⟩ | ⟨k, g, n, hc, rfl⟩
  · refine ext (.lit (.bool false)) [] _ ?_ ?_ ?_
    · rfl
    · show fget ((a, _) :: _) a = _
      rw [fget_cons, if_pos rfl]
    refine thn_n (tr_seq (tr_cond (t := false) ?_ (tr_exit ?_)))
    · show fget ((b, _) :: _) b = _
      rw [fget_cons, if_pos rfl]
    refine thn_x (by simp) (thn_x (by simp) ?_)
    simp only [Blk', if_pos]
    exact fin seen hse (gcands_none (fun e he => by rw [hsince]; exact hlt e he) hc)
  · obtain ⟨h1, h2⟩ := gcands_some hc
    refine ext (.lit (.bool true)) [glit k, g] _ ?_ ?_ ?_
    · rfl
    · show fget ((a, _) :: _) a = _
      rw [fget_cons, if_pos rfl]
    refine thn_n (tr_seq (tr_cond (t := true) ?_ (tr_skip ?_)))
    · show fget ((b, _) :: _) b = _
      rw [fget_cons, if_pos rfl]
    exact thn_n (Tr.mono (body seen k g n hse h1 h2) fun e s hs => thn_mono (fun s h => ⟨⟨seen ++ [n], h.1⟩, h.2, left_less h1 h2⟩) (fun _ _ h => h) hs)
end
end Go.Proofs.YtpmpmhcckbaoaaaGreatDoor
