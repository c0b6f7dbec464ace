/- Bytes of a hold: the program's answer is the document's. The plain law. -/
import Derived.Test.YtpehhhbmobmedaaGreatDoorSp
namespace Go.Proofs.YtpehhhbmobmedaaGreatDoor
set_option linter.unusedVariables false
set_option linter.unusedSimpArgs false
set_option linter.unusedSectionVars false
section
open Go.RowKit
/-! ### errors are never 0 -/
def NoZ (s:Cur):Prop:=s ≠ .error 0
theorem rdN_noz:∀ (k:Nat) (l:List UInt8),rdN k l ≠ .error 0
 | k,[] => by simp [rdN]
 | k,x :: r => by
  have ih:=rdN_noz (k + 1) r
  rw [rdN]
  split
  ·simp
  ·split
   ·simp
   ·cases h:rdN (k + 1) r with
    | error e =>
     rw [h] at ih
     simp only []
     intro h'
     injection h' with h'
     exact ih (by rw [h'])
    | ok q => simp
theorem cNum_noz {s:Cur} (h:NoZ s):NoZ (cNum s).2:=by
 cases s with
 | error e => exact h
 | ok l =>
  have:=rdN_noz 0 l
  cases hq:rdN 0 l with
  | error e =>
   rw [hq] at this
   intro h'
   simp only [cNum,hq] at h'
   injection h' with h'
   exact this (by rw [h'])
  | ok q =>
   intro h'
   simp only [cNum,hq] at h'
   cases h'
theorem cInt_noz {s:Cur} (h:NoZ s):NoZ (cInt s).2:=cNum_noz h
theorem cBool_noz {s:Cur} (h:NoZ s):NoZ (cBool s).2:=by
 unfold cBool
 split
 ·intro h'; injection h' with h'; cases h'
 ·exact cNum_noz h
theorem cMany_noz {m:Int} {s:Cur} (h:NoZ s):NoZ (cMany m s).2:=by
 unfold cMany
 split
 ·intro h'; injection h' with h'; cases h'
 ·exact cInt_noz h
theorem cId_noz {s:Cur} (h:NoZ s):NoZ (cId s).2:=by
 have h1:=cNum_noz (cInt_noz (cInt_noz h))
 unfold cId
 split
 ·rename_i e he
  rw [he] at h1
  exact h1
 ·intro h'; cases h'
theorem cIt_noz {s:Cur} (h:NoZ s):NoZ (cIt s).2:=cNum_noz (cInt_noz (cId_noz h))
theorem cIts_noz:∀ (k:Nat) {s:Cur},NoZ s → NoZ (cIts k s).2
 | 0,s,h => h
 | k + 1,s,h => cIts_noz k (cIt_noz h)
theorem raw_noz (L:List UInt8):NoZ (rawOf L).s:=by
 have h0:NoZ (.ok L):=fun h => by cases h
 have h1:=cBool_noz (cInt_noz h0)
 refine cIts_noz _ (cMany_noz ?_)
 split
 ·exact cNum_noz h1
 ·exact h1
theorem endOf_zero {s:Cur} (h:NoZ s) (he:endOf s = 0):s = .ok []:=by
 cases s with
 | error e =>
  have he:e = 0:=he
  subst he
  exact absurd rfl h
 | ok l =>
  cases l with
  | nil => rfl
  | cons x r => cases he
/-! ### right -/
theorem fold_rt:∀ (l:List It) (A:Acc),(l.foldl accS A).rt = (A.rt && l.all fun x => okI x && okK x.p)
 | [],A => by simp
 | x :: r,A => by
  rw [List.foldl_cons,fold_rt r,List.all_cons]
  show ((A.rt && okI x && okK x.p) && _) = _
  simp only [Bool.and_assoc]
theorem may_key (x:It):mayK (keyOf x) = (okI x && okK x.p):=by
 unfold mayK keyOf okI nmdI
 simp only [Bool.false_or]
 rw [Bool.and_comm]
 congr 1
 rw [← Bool.decide_and]
 apply decide_eq_decide.2
 omega
theorem may_lead (p:Nat):mayK ⟨true,.zero,0,p⟩ = okK p:=by simp [mayK]
theorem all_may (R:Raw):(keysR R).all mayK = ((!R.lead || okK R.p) && R.its.all fun x => okI x && okK x.p):=by
 unfold keysR leadK
 rw [List.all_append,List.all_map]
 have e:(mayK ∘ keyOf) = fun x => okI x && okK x.p:=by funext x; exact may_key x
 rw [e]
 cases R.lead with
 | true => simp [may_lead]
 | false => simp
theorem rt_law (R:Raw):(accOf R).rt = (!decide (R.d < 1 ∨ 12 < R.d) && (keysR R).all mayK):=by
 unfold accOf
 rw [fold_rt,all_may,Bool.and_assoc]
 congr 1
 rw [← decide_not]
 apply decide_eq_decide.2
 omega
/-! ### rising -/
def upC:Nm → List Nm → Bool
 | _,[] => true
 | la,x :: r => upN la x && upC x r
theorem fold_ri:∀ (l:List It) (A:Acc),(l.foldl accS A).ri = (A.ri && upC A.la (l.map nmOf))
 | [],A => by simp [upC]
 | x :: r,A => by
  rw [List.foldl_cons,fold_ri r,List.map_cons,upC]
  show ((A.ri && upN A.la (nmOf x)) && upC (nmOf x) _) = _
  simp only [Bool.and_assoc]
theorem small_ok {x:It} (h:okI x = true):SmallN (nmOf x):=by
 have h:=of_decide_eq_true h
 exact ⟨h.1,h.2.1⟩
theorem ne_zero {x:It} (h:okI x = true):nmOf x ≠ .zero:=fun e => by
 have h:=of_decide_eq_true h
 have:x.i.a = 0:=by
  have:=congrArg (fun m:Nm => m.i.a) e
  exact this
 omega
theorem ahead_up {x y:It} (hx:okI x = true) (hy:okI y = true):aheadK (keyOf x) (keyOf y) = upN (nmOf x) (nmOf y):=by
 have h1:=cmpN_lt (small_ok hx) (small_ok hy)
 have h2:=ne_zero hx
 unfold aheadK upN keyOf
 simp only [Bool.or_self,Bool.false_eq_true,if_false]
 have e:decide (nmOf x = .zero ∨ cmpN (nmOf x) (nmOf y) < 0) = decide (ltN (nmOf x) (nmOf y)):=decide_eq_decide.2 ⟨fun h => h1.1 (h.resolve_left h2),fun h => .inr (h1.2 h)⟩
 rw [e]
 unfold ltN nmOf
 dsimp only
 split
 ·rename_i hi
  exact decide_eq_decide.2 ⟨.inl,fun h => h.resolve_right fun h' => hi h'.1⟩
 ·rename_i hi
  have hi:x.i = y.i:=Decidable.of_not_not hi
  exact decide_eq_decide.2 ⟨fun h => .inr ⟨hi,h⟩,fun h => (h.resolve_left fun h' => ltId_irr y.i (hi ▸ h')).2⟩
theorem rise_up:∀ (l:List It) (x:It),(x :: l).all okI = true → riseK ((x :: l).map keyOf) = upC (nmOf x) (l.map nmOf)
 | [],x,h => rfl
 | y :: r,x,h => by
  have hx:okI x = true:=(List.all_eq_true.1 h) x List.mem_cons_self
  have hy:okI y = true:=(List.all_eq_true.1 h) y (List.mem_cons_of_mem _ List.mem_cons_self)
  have ih:=rise_up r y (by rw [List.all_cons,Bool.and_eq_true] at h; exact h.2)
  rw [List.map_cons,List.map_cons,riseK,ahead_up hx hy,List.map_cons,upC,← ih]
  rfl
theorem upN_zero (x:Nm):upN .zero x = true:=by simp [upN]
theorem rise_law (R:Raw) (h:R.its.all okI = true):riseK (keysR R) = (accOf R).ri:=by
 unfold accOf
 rw [fold_ri]
 dsimp only
 rw [Bool.true_and]
 unfold keysR leadK
 generalize R.its = l at *
 have hz:riseK (l.map keyOf) = upC .zero (l.map nmOf):=by
  cases l with
  | nil => rfl
  | cons x r => rw [rise_up r x h,List.map_cons,upC,upN_zero,Bool.true_and]
 cases hl:R.lead with
 | false => simpa using hz
 | true =>
  simp only [if_true]
  rw [← hz]
  cases l with
  | nil => rfl
  | cons x r =>
   rw [List.map_cons]
   show riseK (_ :: keyOf x :: r.map keyOf) = _
   rw [riseK]
   have:aheadK ⟨true,.zero,0,R.p⟩ (keyOf x) = true:=by simp [aheadK,keyOf]
   rw [this,Bool.true_and]
theorem err_law (R:Raw):errP R = errR R:=by
 unfold errP errR
 split
 ·rfl
 ·have h1:=rt_law R
  by_cases hd:R.d < 1 ∨ 12 < R.d
  ·rw [if_pos hd]
   rw [decide_eq_true hd] at h1
   rw [if_pos (by rw [h1]; rfl)]
  ·rw [if_neg hd]
   rw [decide_eq_false hd] at h1
   simp only [Bool.not_false,Bool.true_and] at h1
   rw [h1]
   by_cases ha:(keysR R).all mayK = false
   ·rw [if_pos ha,if_pos ha]
   ·rw [if_neg ha,if_neg ha]
    have ha:(keysR R).all mayK = true:=by simpa using ha
    rw [all_may,Bool.and_eq_true] at ha
    have h2:R.its.all okI = true:=by
     rw [List.all_eq_true]
     intro x hx
     have:=(List.all_eq_true.1 ha.2) x hx
     rw [Bool.and_eq_true] at this
     exact this.1
    rw [rise_law R h2]
/-! ### what is got -/
theorem up_pair:∀ (l:List It) (x:It),(x :: l).all okI = true → upC (nmOf x) (l.map nmOf) = true → ((x :: l).map nmOf).Pairwise fun a b => ltN a b
 | [],x,_,_ => List.pairwise_singleton _ _
 | y :: r,x,h,hu => by
  have hx:okI x = true:=(List.all_eq_true.1 h) x List.mem_cons_self
  have hy:okI y = true:=(List.all_eq_true.1 h) y (List.mem_cons_of_mem _ List.mem_cons_self)
  rw [List.map_cons,upC,Bool.and_eq_true] at hu
  have ih:=up_pair r y (by rw [List.all_cons,Bool.and_eq_true] at h; exact h.2) hu.2
  have hxy:ltN (nmOf x) (nmOf y):=(cmpN_lt (small_ok hx) (small_ok hy)).1 ((of_decide_eq_true hu.1).resolve_left (ne_zero hx))
  rw [List.map_cons,List.pairwise_cons]
  refine ⟨fun z hz => ?_,ih⟩
  rw [List.map_cons] at hz
  rcases List.mem_cons.1 hz with rfl | hz
  ·exact hxy
  ·rw [List.map_cons,List.pairwise_cons] at ih
   have h1:=ih.1 z hz
   exact of_decide_eq_true (totNB.trans _ _ _ (decide_eq_true hxy) (decide_eq_true h1))
theorem lt_nodup {l:List Nm} (h:l.Pairwise fun a b => ltN a b):l.Nodup:=h.imp fun {a b} hab e => by
 subst e
 have:=totNB.irrefl a
 rw [show ltNB a a = true from decide_eq_true hab] at this
 cases this
theorem fold_kp:∀ (l:List It) (A:Acc),(∀ x ∈ l,nmOf x ∉ A.kp.map (·.1)) → (l.map nmOf).Nodup → (l.foldl accS A).kp = A.kp ++ l.map fun x => (nmOf x,x.p)
 | [],A,_,_ => by simp
 | x :: r,A,h,hn => by
  rw [List.map_cons,List.nodup_cons] at hn
  have e:(accS A x).kp = A.kp ++ [(nmOf x,x.p)]:=putM_new (h x List.mem_cons_self)
  rw [List.foldl_cons,fold_kp r (accS A x) ?_ hn.2,e,List.map_cons,List.append_assoc]
  ·rfl
  ·intro y hy hmem
   rw [e,List.map_append,List.mem_append] at hmem
   rcases hmem with hmem | hmem
   ·exact h y (List.mem_cons_of_mem _ hy) hmem
   ·simp only [List.map_cons,List.map_nil,List.mem_singleton] at hmem
    exact hn.1 (hmem ▸ List.mem_map.2 ⟨y,hy,rfl⟩)
theorem look_of {kp:List (Nm × Nat)} (hn:(kp.map (·.1)).Nodup) {m:Nm} {p:Nat} (h:(m,p) ∈ kp):lookM kp m = some p:=by
 obtain ⟨j,hj⟩:=List.getElem?_of_mem h
 cases ha:atN m (kp.map (·.1)) with
 | none =>
  have hm:m ∈ kp.map (·.1):=List.mem_map.2 ⟨(m,p),h,rfl⟩
  exact absurd hm (atN_none.1 ha)
 | some j' =>
  have h1:=atN_some ha
  have h2:(kp.map (·.1))[j]? = some m:=by rw [List.getElem?_map,hj]; rfl
  have e:j' = j:=(List.getElem?_inj (List.getElem?_eq_some_iff.1 h1).1 hn).1 (h1.trans h2.symm)
  unfold lookM
  rw [ha,e]
  simp [hj]
theorem flatMap_congr' {α β:Type} {f g:α → List β}:∀ {l:List α},(∀ x ∈ l,f x = g x) → l.flatMap f = l.flatMap g
 | [],_ => rfl
 | x :: r,h => by
  rw [List.flatMap_cons,List.flatMap_cons,h x List.mem_cons_self,flatMap_congr' fun y hy => h y (List.mem_cons_of_mem _ hy)]
theorem look_none {kp:List (Nm × Nat)} {m:Nm} (h:m ∉ kp.map (·.1)):lookM kp m = none:=by
 unfold lookM
 rw [atN_none.2 h]
 rfl
structure Got (R:Raw):Prop where
 s:R.s = .ok []
 d:1 ≤ R.d ∧ R.d ≤ 12
 kl:R.lead = true → okK R.p = true
 all:R.its.all (fun x => okI x && okK x.p) = true
 up:upC .zero (R.its.map nmOf) = true
theorem got_of {L:List UInt8} (h:errP (rawOf L) = 0):Got (rawOf L):=by
 have hz:=raw_noz L
 generalize rawOf L = R at *
 unfold errP at h
 split at h
 ·rename_i he; exact absurd h he
 ·rename_i he
  have hs:=endOf_zero hz (Decidable.of_not_not he)
  split at h
  ·cases h
  ·rename_i hr
   split at h
   ·cases h
   ·rename_i hi
    have hr:(accOf R).rt = true:=by simpa using hr
    have hi:(accOf R).ri = true:=by simpa using hi
    rw [rt_law,all_may] at hr
    simp only [Bool.and_eq_true] at hr
    unfold accOf at hi
    rw [fold_ri] at hi
    simp only [Bool.true_and] at hi
    have hd:¬ (R.d < 1 ∨ 12 < R.d):=by simpa using hr.1
    refine ⟨hs,by omega,fun hl => ?_,hr.2.2,hi⟩
    have:=hr.2.1
    rw [hl] at this
    simpa using this
theorem Got.ok {R:Raw} (h:Got R):R.its.all okI = true:=by
 rw [List.all_eq_true]
 intro x hx
 have:=(List.all_eq_true.1 h.all) x hx
 rw [Bool.and_eq_true] at this
 exact this.1
theorem Got.pair {R:Raw} (h:Got R):(R.its.map nmOf).Pairwise fun a b => ltN a b:=by
 have h1:=h.ok
 have h2:=h.up
 generalize R.its = l at *
 cases l with
 | nil => exact List.Pairwise.nil
 | cons x r =>
  rw [List.map_cons,upC,Bool.and_eq_true] at h2
  exact up_pair r x h1 h2.2
def leadM (R:Raw):List (Nm × Nat):=if R.lead then [(.zero,R.p)] else []
theorem Got.kp {R:Raw} (h:Got R):(accOf R).kp = leadM R ++ R.its.map fun x => (nmOf x,x.p):=by
 unfold accOf
 rw [fold_kp]
 ·rfl
 ·intro x hx hm
  have hok:=(List.all_eq_true.1 h.ok) x hx
  dsimp only at hm
  split at hm
  ·simp only [List.map_cons,List.map_nil,List.mem_singleton] at hm
   exact ne_zero hok hm
  ·cases hm
 ·exact lt_nodup h.pair
theorem Got.names {R:Raw} (h:Got R):((accOf R).kp.map (·.1)).Pairwise fun a b => ltN a b:=by
 rw [h.kp,List.map_append,List.map_map]
 have hp:=h.pair
 unfold leadM
 split
 ·rw [List.map_cons,List.map_nil,List.singleton_append,List.pairwise_cons]
  refine ⟨fun z hz => ?_,hp⟩
  obtain ⟨x,hx,rfl⟩:=List.mem_map.1 hz
  have hok:=of_decide_eq_true ((List.all_eq_true.1 h.ok) x hx)
  refine .inl (.inl ?_)
  show (0:Int) < x.i.a
  omega
 ·exact hp
theorem Got.small {R:Raw} (h:Got R):∀ m ∈ (accOf R).kp.map (·.1),SmallN m:=by
 rw [h.kp,List.map_append,List.map_map]
 intro m hm
 rcases List.mem_append.1 hm with hm | hm
 ·unfold leadM at hm
  split at hm
  ·simp only [List.map_cons,List.map_nil,List.mem_singleton] at hm
   subst hm
   exact ⟨by decide,by decide⟩
  ·cases hm
 ·obtain ⟨x,hx,rfl⟩:=List.mem_map.1 hm
  exact small_ok ((List.all_eq_true.1 h.ok) x hx)
theorem Got.wf {R:Raw} (h:Got R):∀ m ∈ (accOf R).kp.map (·.1),WfN m:=by
 rw [h.kp,List.map_append,List.map_map]
 intro m hm
 rcases List.mem_append.1 hm with hm | hm
 ·unfold leadM at hm
  split at hm
  ·simp only [List.map_cons,List.map_nil,List.mem_singleton] at hm
   subst hm
   exact ⟨by unfold Is64; decide,by unfold Is64; decide,by decide,by unfold Is64; decide⟩
  ·cases hm
 ·obtain ⟨x,hx,rfl⟩:=List.mem_map.1 hm
  have hok:=of_decide_eq_true ((List.all_eq_true.1 h.ok) x hx)
  refine ⟨?_,?_,?_,?_⟩
  ·show Is64 x.i.a; unfold Is64; omega
  ·show Is64 x.i.b; unfold Is64; omega
  ·show x.i.c < _; omega
  ·show Is64 x.n; unfold Is64; omega
theorem Got.priv {R:Raw} (h:Got R) (m:Nm):(lookM (accOf R).kp m).getD 0 < 18446744073709551616:=by
 cases hl:lookM (accOf R).kp m with
 | none => decide
 | some p =>
  unfold lookM at hl
  rw [Option.bind_eq_some_iff] at hl
  obtain ⟨j,_,hj⟩:=hl
  rw [Option.map_eq_some_iff] at hj
  obtain ⟨⟨m',p'⟩,hj,rfl⟩:=hj
  have hmem:=List.mem_of_getElem? hj
  rw [h.kp] at hmem
  rcases List.mem_append.1 hmem with hm | hm
  ·unfold leadM at hm
   split at hm
   ·rename_i hl
    have:=of_decide_eq_true (h.kl hl)
    simp only [List.mem_singleton,Prod.mk.injEq] at hm
    obtain ⟨_,rfl⟩:=hm
    show R.p < _
    omega
   ·cases hm
  ·obtain ⟨x,hx,e⟩:=List.mem_map.1 hm
   cases e
   have:=(List.all_eq_true.1 h.all) x hx
   rw [Bool.and_eq_true] at this
   have:=of_decide_eq_true this.2
   show x.p < _
   omega
theorem Got.terms {R:Raw} (h:Got R):((accOf R).kp.map (·.1)).map (tN R.d) = (keysR R).map (tK R.d):=by
 rw [h.kp]
 unfold keysR leadK leadM
 rw [List.map_append,List.map_append,List.map_append]
 congr 1
 ·split <;> rfl
 ·rw [List.map_map,List.map_map,List.map_map]
  refine List.map_congr_left fun x hx => ?_
  have hok:=ne_zero ((List.all_eq_true.1 h.ok) x hx)
  show tN R.d (nmOf x) = tK R.d (keyOf x)
  unfold tN tK keyOf
  rw [if_neg hok]
  rfl
theorem Got.put {R:Raw} (h:Got R):putB R.d (accOf R).kp ((accOf R).kp.map (·.1)) = rawB R:=by
 have hn:=lt_nodup h.names
 have hk:=h.kp
 have hz:lookM (accOf R).kp .zero = if R.lead then some R.p else none:=by
  cases hl:R.lead with
  | true =>
   rw [if_pos rfl]
   refine look_of hn ?_
   rw [hk]
   unfold leadM
   rw [hl]
   simp
  | false =>
   simp only [Bool.false_eq_true,if_false]
   refine look_none ?_
   rw [hk]
   unfold leadM
   rw [hl]
   simp only [Bool.false_eq_true,if_false,List.nil_append,List.map_map]
   intro hm
   obtain ⟨x,hx,e⟩:=List.mem_map.1 hm
   exact ne_zero ((List.all_eq_true.1 h.ok) x hx) e
 have ho:othersN (accOf R).kp ((accOf R).kp.map (·.1)) = R.its.map nmOf:=by
  unfold othersN
  rw [hz,hk,List.map_append,List.map_map]
  unfold leadM
  cases R.lead <;> rfl
 have hf:(R.its.map nmOf).flatMap (nmB (accOf R).kp) = R.its.flatMap itB:=by
  rw [List.flatMap_map]
  refine flatMap_congr' fun x hx => ?_
  have hl:lookM (accOf R).kp (nmOf x) = some x.p:=look_of hn (by
   rw [hk]
   exact List.mem_append_right _ (List.mem_map.2 ⟨x,hx,rfl⟩))
  unfold nmB itB idB
  rw [hl]
  show nb (zig x.i.a) ++ nb (zig x.i.b) ++ nb x.i.c ++ (nb (zig x.n) ++ nb x.p) = _
  simp only [List.append_assoc]
 unfold putB headB rawB
 rw [ho,hf,hz,List.length_map]
 cases R.lead <;> simp
end
section
open Go.RowKit
attribute [local irreducible] Tr Run RunD RunF GS TG Le Wk Frz Fn' ImmG Flat WkFr WkSt EndM Ex EndX McK FnM gNm gK
abbrev gO (g0 g1 g3 g4:G) (i:Nat):Ob:=⟨31,[g0,g1,.rsl i 0 1,g3,g4],none⟩
theorem gO_ld {σ:Sto} {k i:Nat} {g0 g1 g3 g4:G} (h:sget σ k = some (gO g0 g1 g3 g4 i)):gload Tryz.prog σ 27 (.ref k 2) = some (.rsl i 0 1) ∧ gload Tryz.prog σ 31 (.ref k 0) = some (.agg [g0,g1,.rsl i 0 1,g3,g4]):=by
 simp only [gload,h]
 exact ⟨by kernel_rfl,by kernel_rfl⟩
theorem gO_st {σ:Sto} {k i:Nat} {g0 g1 g3 g4:G} {l:List G} (h:sget σ k = some ⟨31,l,none⟩) (hl:l.length = 5):gsto Tryz.prog σ 31 (.ref k 0) (.agg [g0,g1,.rsl i 0 1,g3,g4]) = some (k,gO g0 g1 g3 g4 i):=by
 obtain ⟨a0,a1,a2,a3,a4,rfl⟩:∃ a0 a1 a2 a3 a4,l = [a0,a1,a2,a3,a4]:=by
  match l,hl with
  | [a0,a1,a2,a3,a4],_ => exact ⟨_,_,_,_,_,rfl⟩
 simp only [gsto,h]
 kernel_rfl
theorem a_fld {σ:Sto} {j q:Nat} {l:List Act} {x:Act} (h:sget σ j = some (rowAct l)) (hx:l[q]? = some x):gload Tryz.prog σ 3 (.ref j (q * 3 + 0)) = some (vI (x.a:Int)) ∧ gload Tryz.prog σ 3 (.ref j (q * 3 + 1)) = some (vI (x.n:Int)) ∧ gload Tryz.prog σ 23 (.ref j (q * 3 + 2)) = some (vU x.p) :=
 ⟨rowA_fld (P:=Tryz.prog) (e:=76) len_cA (by kernel_rfl) (by kernel_rfl) h hx (by omega) rfl,rowA_fld (P:=Tryz.prog) (e:=76) len_cA (by kernel_rfl) (by kernel_rfl) h hx (by omega) rfl,rowA_fld (P:=Tryz.prog) (e:=76) len_cA (by kernel_rfl) (by kernel_rfl) h hx (by omega) rfl⟩
theorem ix1 (i:Nat):gindex Tryz.prog 27 (.rsl i 0 1) ((0:Nat):Int) = some (.ref i 0):=by
 simp only [gindex]
 rw [show telem Tryz.prog 27 = some 61 by kernel_rfl,show tarr Tryz.prog 27 = none by kernel_rfl]
 simp only []
 rw [show tsize Tryz.prog 61 = some 3 by kernel_rfl]
 rfl
structure TA (σ σ1:Sto) (c c1:Nat) (g0 g1 g3 g4:G) (ii:Nat) (x:Idn) (d:Int) (ih im iw ja jl:Nat) (kp:List (Nm × Nat)) (acts:List Act) (l:List KK):Prop where
 h0:sget σ1 c = some (gO g0 g1 g3 g4 ii)
 h1:sget σ1 (c + 1) = some (hO 0 gN0)
 hh:HoldAt σ1 ih im d kp
 hw:sget σ1 iw = some (hO d (.rsl jl 0 l.length))
 hl:sget σ1 jl = some (rowK l)
 ha:sget σ1 ja = some (rowAct acts)
 b:c + 1 < im ∧ im < ih ∧ ih < iw ∧ iw < ja ∧ ja < c1 ∧ ih < jl ∧ jl ≠ iw ∧ jl ≠ ja ∧ jl < c1
 hk:∀ k,k < c → sget σ1 k = sget σ k
 l1:l ≠ []
 l2:∀ y ∈ l,WfK y
theorem TA.more {σ σ1 σ2:Sto} {c c1 c2:Nat} {g0 g1 g3 g4:G} {ii:Nat} {x:Idn} {d:Int} {ih im iw ja jl:Nat} {kp:List (Nm × Nat)} {acts:List Act} {l:List KK} (h:TA σ σ1 c c1 g0 g1 g3 g4 ii x d ih im iw ja jl kp acts l) (hc:c1 ≤ c2) (hs:∀ k,k < c1 → sget σ2 k = sget σ1 k):TA σ σ2 c c2 g0 g1 g3 g4 ii x d ih im iw ja jl kp acts l:=by
 have:=h.b
 exact ⟨(hs _ (by omega)).trans h.h0,(hs _ (by omega)).trans h.h1,h.hh.of (hs _ (by omega)) (hs _ (by omega)),(hs _ (by omega)).trans h.hw,(hs _ (by omega)).trans h.hl,(hs _ (by omega)).trans h.ha,by omega,fun k hk => (hs k (by omega)).trans (h.hk k hk),h.l1,h.l2⟩
set_option maxHeartbeats 16000000 in
theorem taught_mc (gl:List (Nat × List G)) (g0 g1 g3 g4:G) (ii:Nat) (x:Idn) (hx:Is64 x.a ∧ Is64 x.b ∧ x.c < 18446744073709551616) (dev:Int) (hdev:Is64 dev) (lead:Nat) (A:List Int) (hA:∀ z ∈ A,Is64 z) (σ:Sto) (c:Nat) (hi:sget σ ii = some (idO x.a x.b x.c)) (hic:ii < c) :
  Mc Tryz.prog gl 5 [.agg [g0,g1,.rsl ii 0 1,g3,g4],vI dev,vU lead,.sl (A.map vI) A.length] σ c (fun v σ' c' => ∃ gp d q l,v = .tup [gp,.agg [vI d,.rsl q 0 l.length]] ∧ sget σ' q = some (rowK l) ∧ c ≤ q ∧ q < c' ∧ (∀ k,k < c → sget σ' k = sget σ k) ∧ l ≠ [] ∧ l.length ≤ 20 ∧ (∀ y ∈ l,WfK y) ∧ Is64 d):=by
 obtain ⟨hm0,hm1⟩:=arI_bd (n:=dev) (m:=6) (by decide)
 have hAr:=around_fn gl dev 6 hdev (by decide)
 obtain ⟨d,ed⟩:∃ d,d = 1 + arI dev 6:=⟨_,rfl⟩
 have hd:1 ≤ d ∧ d ≤ 6:=by omega
 have hSe:=secret01_fn gl lead
 obtain ⟨kk,ekk⟩:∃ k,k = 1 + lead % 2305843009213693949:=⟨_,rfl⟩
 have hkk:kk < 18446744073709551616:=by
  have:=Nat.mod_lt lead (show 2305843009213693949 > 0 by decide)
  omega
 rw [← ekk] at hSe
 obtain ⟨σ0,e0⟩:∃ σ0:Sto,σ0 = (c + 1,some (hO 0 gN0)) :: (c,some (gO g0 g1 g3 g4 ii)) :: σ:=⟨_,rfl⟩
 obtain ⟨r1,σ1,c1,⟨rfl,rfl,hH1,k1⟩,hM1⟩:=new_mc gl d kk σ0 (c + 1 + 1)
 obtain ⟨r2,σ2,c2,⟨rfl,rfl,hw2,k2⟩,hM2⟩:=rnew_mc gl d kk σ1 (c + 1 + 1 + 2)
 obtain ⟨σ3,e3⟩:∃ σ3:Sto,σ3 = (c + 1 + 1 + 2 + 2,some (hO d (.rsl (c + 1 + 1 + 2 + 1) 0 1))) :: (c + 1 + 1 + 2 + 2,some (hO 0 gN0)) :: σ2:=⟨_,rfl⟩
 obtain ⟨r4,σ4,c4,⟨ja,acts,rfl,ha4,hj1,hj2,k4,hal,hact⟩,hM4⟩:=acts_mc gl A hA σ3 (c + 1 + 1 + 2 + 2 + 1)
 have k34:∀ k,k < c + 1 + 1 + 2 + 2 → sget σ4 k = sget σ2 k:=fun k hk => by rw [k4 k (by omega),e3,sget_ne (by omega),sget_ne (by omega)]
 have T4:TA σ σ4 c c4 g0 g1 g3 g4 ii x d (c + 1 + 1 + 1) (c + 1 + 1) (c + 1 + 1 + 2 + 2) ja (c + 1 + 1 + 2 + 1) [(.zero,kk)] acts [⟨true,.zero,0,kk⟩]:=by
  refine ⟨?_,?_,?_,?_,?_,ha4,by omega,fun k hk => ?_,by simp,fun y hy => ?_⟩
  ·rw [k34 _ (by omega),k2 _ (by omega),k1 _ (by omega),e0,sget_ne (by omega),sget_eq rfl]
  ·rw [k34 _ (by omega),k2 _ (by omega),k1 _ (by omega),e0,sget_eq rfl]
  ·exact hH1.of (by rw [k34 _ (by omega),k2 _ (by omega)]) (by rw [k34 _ (by omega),k2 _ (by omega)])
  ·rw [k4 _ (by omega),e3,sget_eq rfl]; rfl
  ·rw [k34 _ (by omega)]; exact hw2
  ·rw [k34 _ (by omega),k2 _ (by omega),k1 _ (by omega),e0,sget_ne (by omega),sget_ne (by omega)]
  ·obtain rfl:=List.mem_singleton.1 hy
   exact ⟨by show Is64 0; unfold Is64; omega,by show Is64 0; unfold Is64; omega,by show 0 < _; omega,by show Is64 0; unfold Is64; omega,hkk⟩
 refine mc_enter (by kernel_rfl) Tryz.func5 rfl (by simp [Tryz.ntmps5]) ?_
 simp only [enterFr,Tryz.ntmps5]
 refine wS ?_
 refine run_box (l:=[g0,g1,.rsl ii 0 1,g3,g4]) (by kernel_rfl) (by decide) ?_
 refine zv (.lit (.pointer none)) ?_
 refine run_alloc (l:=[vI 0,gN0]) (by kernel_rfl) (by decide) ?_
 rw [show ((c + 1,some (⟨36,[vI 0,gN0],none⟩:Ob)) :: (c,some ⟨31,[g0,g1,.rsl ii 0 1,g3,g4],none⟩) :: σ:Sto) = σ0 from e0.symm]
 refine wS ?_
 refine zv (vI dev) ?_
 refine run_c hAr (by kernel_rfl) (by decide) rfl (im2 (imm_lit _) (imm_lit _)) ?_
 refine run_bin rfl rfl (addI (a:=1) (b:=arI dev 6) (by unfold Is64; omega)) (by decide) ?_
 refine zv (vI (1 + (arI dev 6))) ?_
 rw [show (1:Int) + arI dev 6 = d from ed.symm]
 refine wS ?_
 refine zv (vU lead) ?_
 refine run_c hSe (by kernel_rfl) (by decide) rfl (im1 (imm_lit _)) ?_
 refine zv (vU kk) ?_
 refine wS ?_
 refine zv (vI d) ?_
 refine zv (vU kk) ?_
 refine run_m hM1 [] [] (by kernel_rfl) (by kernel_rfl) (by decide) ?_
 refine zv (.ref (c + 1 + 1 + 1) 0) ?_
 refine wS ?_
 refine zv (vI d) ?_
 refine zv (vU kk) ?_
 refine run_m hM2 [] [] (by kernel_rfl) (by kernel_rfl) (by decide) ?_
 refine run_alloc (l:=[vI 0,gN0]) (by kernel_rfl) (by decide) ?_
 refine run_sto (hO_stw (sget_eq rfl)) ?_
 rw [← e3]
 refine wS ?_
 refine zv (.sl (A.map vI) A.length) ?_
 refine run_m hM4 [] [] (by kernel_rfl) (by kernel_rfl) (by decide) ?_
 refine zv (.rsl ja 0 acts.length) ?_
 refine wS ?_
 refine zv (vI ((0:Nat):Int)) ?_
 apply run_nil
 apply thn_n
 apply ex_block
 obtain ⟨ih,eih⟩:∃ i,i = c + 1 + 1 + 1:=⟨_,rfl⟩
 obtain ⟨im,eim⟩:∃ i,i = c + 1 + 1:=⟨_,rfl⟩
 obtain ⟨iw,eiw⟩:∃ i,i = c + 1 + 1 + 2 + 2:=⟨_,rfl⟩
 rw [← eiw,← eih,← eim] at T4
 refine ex_bthn (K:=fun s => ∃ fr' σ5 c5 jl kp l,s = ⟨81,gl,fr',σ5,c5,c,false⟩ ∧ FrOk fr' [(9,.ref (c + 1) 0),(12,.ref ih 0),(13,.ref iw 0)] ∧ TA σ σ5 c c5 g0 g1 g3 g4 ii x d ih im iw ja jl kp acts l ∧ l.length ≤ 11) ?_ ?_
 ·refine ex_loop (fun t s => ∃ (q:Nat) (σ5:Sto) (c5 jl:Nat) (kp:List (Nm × Nat)) (l:List KK),s = ⟨81,gl,[(4,.ref c 0),(9,.ref (c + 1) 0),(12,.ref ih 0),(13,.ref iw 0),(14,.rsl ja 0 acts.length),(15,vI (q:Int))],σ5,c5,c,false⟩ ∧ t = acts.length - q ∧ q ≤ acts.length ∧ TA σ σ5 c c5 g0 g1 g3 g4 ii x d ih im iw ja jl kp acts l ∧ l.length ≤ 1 + q) acts.length (le_frs (fr':=[(4,.ref c 0),(9,.ref (c + 1) 0),(12,.ref ih 0),(13,.ref iw 0),(14,.rsl ja 0 acts.length),(15,vI ((0:Nat):Int))]) (by rw [eih,eiw]; exact (by repeat' (first|exact ⟨⟩|refine ⟨rfl,?_⟩)))) ⟨0,σ4,c4,_,_,_,rfl,rfl,by omega,T4,by simp⟩ ?_
  rintro t s ⟨q,σ5,c5,jl,kp,l,rfl,rfl,hq,T5,hll⟩
  obtain ⟨b1,b2,b3,b4,b5,b6,b7,b8,b9⟩:=T5.b
  obtain ⟨lid,_⟩:=gO_ld T5.h0
  refine wN ?_
  refine ex_region_k (fun s => ∃ fr',s = ⟨81,gl,fr',σ5,c5,c,false⟩ ∧ FrOk fr' [(4,.ref c 0),(9,.ref (c + 1) 0),(12,.ref ih 0),(13,.ref iw 0),(14,.rsl ja 0 acts.length),(15,vI (q:Int)),(37,vB (decide ((q:Int) < (acts.length:Int))))]) ?_ ?_
  ·refine zv (vI (q:Int)) ?_
   refine zv (.rsl ja 0 acts.length) ?_
   refine zv (vI acts.length) ?_
   refine run_bin rfl rfl (ltI (a:=(q:Int)) (b:=acts.length)) (by decide) ?_
   by_cases h1:(q:Int) < (acts.length:Int)
   ·rw [decide_eq_true h1]
    refine zv (vB true) ?_
    refine zg (.ref ih 0) ?_
    refine ged_nc (g:=vB true) (by kernel_rfl) rfl rfl (by kernel_rfl) (by decide) ?_
    refine zv (vB true) ?_
    exact run_nil ⟨_,rfl,(by repeat' (first|exact ⟨⟩|refine ⟨rfl,?_⟩))⟩
   ·rw [decide_eq_false h1]
    refine zv (vB false) ?_
    refine zn ?_
    refine zn ?_
    refine zv (vB false) ?_
    exact run_nil ⟨_,rfl,(by repeat' (first|exact ⟨⟩|refine ⟨rfl,?_⟩))⟩
  rintro s' ⟨fr',rfl,hfr⟩
  apply thn_n
  refine Ex.le ?_ (le_frs hfr)
  refine ex_condP (p:=(q:Int) < (acts.length:Int)) rfl (fun hlt => ?_) (fun hlt => ?_)
  ·obtain ⟨y,hy⟩:∃ y,acts[q]? = some y:=⟨_,List.getElem?_eq_getElem (by omega)⟩
   have hya:=hact y (List.mem_of_getElem? hy)
   have hal10:=hal
   have hi5:sget σ5 ii = some (idO x.a x.b x.c):=by
    rw [T5.hk ii hic]; exact hi
   obtain ⟨q0,hq0,hix,_⟩:=rowA_ix (P:=Tryz.prog) (t:=73) (e:=76) len_cA (by kernel_rfl) (by kernel_rfl) (rowA_new (σ:=σ5) len_cA T5.ha rfl) hy
   cases hq0
   refine wN ?_
   refine Ex.le ?_ (le_resv _)
   dsimp only
   obtain ⟨σr,er⟩:∃ σr:Sto,σr = (c5,some resvOb) :: σ5:=⟨_,rfl⟩
   rw [← er]
   have kr:∀ k,k < c5 → sget σr k = sget σ5 k:=fun k hk => by rw [er,sget_ne (by omega)]
   have Tr5:TA σ σr c (c5 + 1) g0 g1 g3 g4 ii x d ih im iw ja jl kp acts l:=T5.more (by omega) kr
   obtain ⟨lidr,_⟩:=gO_ld Tr5.h0
   obtain ⟨fa,_,_⟩:=a_fld Tr5.ha hy
   have lxr:=id_ld ((kr ii (by omega)).trans hi5)
   refine ex_region_draw4 (inf:=[dR,.rd [c] (fun _ => false),dR,dR,dR,dR,.rd [ja] (fun _ => false),dR,.rd [c] (fun _ => false),dR,dR,dR,.rd [ii] (fun _ => false),.wr [c5] [(c5,some (idO 0 0 0))] [(c5,some resvOb)] false,.wr [c5] [(c5,some (idO x.a x.b x.c))] [(c5,some (idO 0 0 0))] false]) mixed ?_ ?_
   ·refine drawOk4_of (pairs:=[(1,6),(1,8),(6,8),(1,9),(6,9),(1,13),(6,13),(8,13),(9,13),(12,13)]) (by kernel_rfl) (by kernel_rfl) ?_
    intro z hz
    simp only [List.mem_cons,List.not_mem_nil,or_false] at hz
    rcases hz with rfl | rfl | rfl | rfl | rfl | rfl | rfl | rfl | rfl | rfl
    ·exact (rfl:okS (.rd _ _) (.rd _ _) = true)
    ·exact (rfl:okS (.rd _ _) (.rd _ _) = true)
    ·exact (rfl:okS (.rd _ _) (.rd _ _) = true)
    ·exact (rfl:okS (.rd _ _) (.rd _ _) = true)
    ·exact (rfl:okS (.rd _ _) (.rd _ _) = true)
    all_goals
     refine okS_rw (fun y hy => ?_)
     simp only [List.map_cons,List.map_nil,List.mem_cons,List.not_mem_nil,or_false] at hy ⊢
     first | omega | exact fun h => h.elim
   refine rf_v (d:=40) (g:=.ref c 2) rfl rfl (by show 40 < 81; decide) (by kernel_rfl) (fun t x h => by cases h) ?_
   refine rf_ld (d:=41) (i:=c) (k:=2) (g:=.rsl ii 0 1) (by show 41 < 81; decide) rfl lidr ?_
   refine rf_v (d:=42) (g:=.rsl ja 0 acts.length) rfl rfl (by show 42 < 81; decide) (by kernel_rfl) (fun t x h => by cases h) ?_
   refine rf_v (d:=43) (g:=vI (q:Int)) rfl rfl (by show 43 < 81; decide) (by kernel_rfl) (fun t x h => by cases h) ?_
   refine rf_v (d:=44) (g:=.ref ja (q * 3)) rfl rfl (by show 44 < 81; decide) (Eq.trans (by kernel_rfl) hix) (fun t x h => by cases h) ?_
   refine rf_v (d:=45) (g:=.ref ja (q * 3 + 0)) rfl rfl (by show 45 < 81; decide) (by kernel_rfl) (fun t x h => by cases h) ?_
   refine rf_ld (d:=46) (i:=ja) (k:=q * 3 + 0) (g:=vI (y.a:Int)) (by show 46 < 81; decide) rfl fa ?_
   refine rf_v (d:=47) (g:=.ref c 2) rfl rfl (by show 47 < 81; decide) (by kernel_rfl) (fun t x h => by cases h) ?_
   refine rf_ld (d:=48) (i:=c) (k:=2) (g:=.rsl ii 0 1) (by show 48 < 81; decide) rfl lidr ?_
   refine rf_v (d:=49) (g:=vI ((1:Nat):Int)) rfl rfl (by show 49 < 81; decide) (by kernel_rfl) (fun t x h => by cases h) ?_
   refine rf_v (d:=50) (g:=vI ((0:Nat):Int)) rfl rfl (by show 50 < 81; decide) (Eq.trans (by rw [ev_bin]; kernel_rfl) (Eq.trans (remN (P:=Tryz.prog) (x:=.tmp 46) (y:=.tmp 49) (t:=3) (a:=y.a) (b:=1) (by decide)) (by rw [Nat.mod_one]))) (fun t x h => by cases h) ?_
   refine rf_v (d:=51) (g:=.ref ii 0) rfl rfl (by show 51 < 81; decide) (Eq.trans (by kernel_rfl) (ix1 ii)) (fun t x h => by cases h) ?_
   refine rf_ld (d:=52) (i:=ii) (k:=0) (g:=vIdn x) (by show 52 < 81; decide) rfl lxr ?_
   refine rf_w (d:=16) (g:=.ref c5 0) (U:=[(c5,some (idO 0 0 0))]) (R:=[c5]) c5 ?_ rfl rfl (by show 16 < 81; decide) rfl (xeff_alloc rfl ?_ (Nat.ble_eq_true_of_le (show c ≤ c5 by omega)) (by kernel_rfl)) ?_
   ·show [(c5,some resvOb)] = [(c5,sget σr c5)]
    rw [er,sget_eq rfl]
   ·show isResv (sget σr c5) = true
    rw [er,sget_eq rfl]; rfl
   refine rf_w0 (g:=.lit undef) (U:=[(c5,some (idO x.a x.b x.c))]) (R:=[c5]) c5 ?_ rfl rfl rfl (xeff_sto rfl rfl (id_st (l:=[vI 0,vI 0,vU 0]) (sget_eq rfl) rfl)) ?_
   ·show [(c5,some _)] = [(c5,sget ((c5,some (idO 0 0 0)) :: σr) c5)]
    rw [sget_eq rfl]
   apply rf_nil
   apply thn_n
   obtain ⟨σ6,e6⟩:∃ σ6:Sto,σ6 = (c5,some (idO x.a x.b x.c)) :: (c5,some (idO 0 0 0)) :: σr:=⟨_,rfl⟩
   have T6:TA σ σ6 c (c5 + 1) g0 g1 g3 g4 ii x d ih im iw ja jl kp acts l:=by
    have hk6:∀ k,k < c5 → sget σ6 k = sget σ5 k:=fun k hk => by rw [e6,sget_ne (by omega),sget_ne (by omega),kr k hk]
    exact T5.more (by omega) hk6
   have x6:=id_ld (σ:=σ6) (k:=c5) (a:=x.a) (b:=x.b) (s:=x.c) (by rw [e6]; exact sget_eq rfl)
   refine Ex.le (st':=⟨81,gl,[(4,.ref c 0),(9,.ref (c + 1) 0),(12,.ref ih 0),(13,.ref iw 0),(14,.rsl ja 0 acts.length),(15,vI (q:Int)),(16,.ref c5 0)],σ6,c5 + 1,c,false⟩) ?_ (by rw [e6]; exact le_frs (by repeat' (first|exact ⟨⟩|refine ⟨rfl,?_⟩)))
   -- the program learns
   obtain ⟨v7,σ7,c7,⟨rfl,rfl,hH7,k7⟩,hM7⟩:=learn_mc gl (c5 + 1) T6.hh (by omega) (by omega) x (y.n:Int) y.p
   obtain ⟨_,fn6,fp6⟩:=a_fld T6.ha hy
   have T7:TA σ σ7 c (c5 + 1 + 1) g0 g1 g3 g4 ii x d ih im iw ja jl (putM kp ⟨x,y.n⟩ y.p) acts l:=by
    refine ⟨?_,?_,hH7,?_,?_,?_,by omega,fun k hk => ?_,T6.l1,T6.l2⟩
    ·rw [k7 _ (by omega) (by omega)]; exact T6.h0
    ·rw [k7 _ (by omega) (by omega)]; exact T6.h1
    ·rw [k7 _ (by omega) (by omega)]; exact T6.hw
    ·rw [k7 _ (by omega) (by omega)]; exact T6.hl
    ·rw [k7 _ (by omega) (by omega)]; exact T6.ha
    ·rw [k7 _ (by omega) (by omega)]; exact T6.hk k hk
   have x7:gload Tryz.prog σ7 61 (.ref c5 0) = some (vIdn x):=id_ld (by rw [k7 c5 (by omega) (by omega),e6]; exact sget_eq rfl)
   obtain ⟨_,fn7,fp7⟩:=a_fld T7.ha hy
   obtain ⟨_,_,lw7⟩:=hO_ld T7.hw
   -- the document learns
   obtain ⟨v8,σ8,c8,⟨jq,l',rfl,hl8,hq1,hq2,k8,hle8,hne8,hin8⟩,hM8⟩:=rlearn_mc gl d (jg:=jl) (l:=l) x (y.n:Int) y.p σ7 (c5 + 1 + 1) T7.hl (by omega) (by omega)
   obtain ⟨σ9,e9⟩:∃ σ9:Sto,σ9 = (iw,some (hO d (.rsl jq 0 l'.length))) :: σ8:=⟨_,rfl⟩
   have T9:TA σ σ9 c c8 g0 g1 g3 g4 ii x d ih im iw ja jq (putM kp ⟨x,y.n⟩ y.p) acts l':=by
    refine ⟨?_,?_,?_,?_,?_,?_,by omega,fun k hk => ?_,hne8,fun z hz => ?_⟩
    ·rw [e9,sget_ne (by omega),k8 _ (by omega)]; exact T7.h0
    ·rw [e9,sget_ne (by omega),k8 _ (by omega)]; exact T7.h1
    ·exact T7.hh.of (by rw [e9,sget_ne (by omega),k8 _ (by omega)]) (by rw [e9,sget_ne (by omega),k8 _ (by omega)])
    ·rw [e9]; exact sget_eq rfl
    ·rw [e9,sget_ne (by omega)]; exact hl8
    ·rw [e9,sget_ne (by omega),k8 _ (by omega)]; exact T7.ha
    ·rw [e9,sget_ne (by omega),k8 _ (by omega)]; exact T7.hk k hk
    ·rcases hin8 z hz with hz | rfl
     ·exact T5.l2 z hz
     ·exact ⟨hx.1,hx.2.1,hx.2.2,by show Is64 (y.n:Int); unfold Is64; omega,hya.2.2⟩
   refine wN ?_
   refine ex_region_draw (bars:=[12]) mixed (by kernel_rfl) ?_
   refine zd (.ref ih 0) ?_
   refine rund_ld rfl x6 (by decide) ?_
   refine zd (.rsl ja 0 acts.length) ?_
   refine zd (vI (q:Int)) ?_
   refine rund_v (g:=.ref ja (q * 3)) (Eq.trans (by kernel_rfl) hix) (by decide) ?_
   refine zd (.ref ja (q * 3 + 1)) ?_
   refine rund_ld rfl fn6 (by decide) ?_
   refine zd (.rsl ja 0 acts.length) ?_
   refine zd (vI (q:Int)) ?_
   refine rund_v (g:=.ref ja (q * 3)) (Eq.trans (by kernel_rfl) hix) (by decide) ?_
   refine zd (.ref ja (q * 3 + 2)) ?_
   refine rund_ld rfl fp6 (by decide) ?_
   refine rund_m rfl hM7 [] [] (by kernel_rfl) (by kernel_rfl) (by decide) ?_
   apply rund_nil
   refine wN ?_
   refine ex_region_draw (bars:=[12,13]) mixed (by kernel_rfl) ?_
   refine rund_ld rfl lw7 (by decide) ?_
   refine rund_ld rfl x7 (by decide) ?_
   refine zd (.rsl ja 0 acts.length) ?_
   refine zd (vI (q:Int)) ?_
   refine rund_v (g:=.ref ja (q * 3)) (Eq.trans (by kernel_rfl) hix) (by decide) ?_
   refine zd (.ref ja (q * 3 + 1)) ?_
   refine rund_ld rfl fn7 (by decide) ?_
   refine zd (.rsl ja 0 acts.length) ?_
   refine zd (vI (q:Int)) ?_
   refine rund_v (g:=.ref ja (q * 3)) (Eq.trans (by kernel_rfl) hix) (by decide) ?_
   refine zd (.ref ja (q * 3 + 2)) ?_
   refine rund_ld rfl fp7 (by decide) ?_
   refine rund_m rfl hM8 [] [] (by kernel_rfl) (by kernel_rfl) (by decide) ?_
   refine rund_sto rfl (hO_stw (d:=d) (g:=.rsl jl 0 l.length) (by rw [k8 _ (by omega)]; exact T7.hw)) ?_
   apply rund_nil
   rw [← e9]
   refine wS ?_
   refine zv (vI (q:Int)) ?_
   refine run_v (g:=vI ((q + 1:Nat):Int)) (Eq.trans (by kernel_rfl) (congrArg some (show G.lit (.int .i64 (IntKind.i64.wrap ((q:Int) + 1))) = _ by rw [w64 (by omega)]; rfl))) (by decide) ?_
   refine zv (vI ((q + 1:Nat):Int)) ?_
   refine wS ?_
   exact ⟨acts.length - (q + 1),_,by omega,le_frs (fr':=[(4,.ref c 0),(9,.ref (c + 1) 0),(12,.ref ih 0),(13,.ref iw 0),(14,.rsl ja 0 acts.length),(15,vI ((q + 1:Nat):Int))]) (by repeat' (first|exact ⟨⟩|refine ⟨rfl,?_⟩)),q + 1,σ9,c8,jq,_,l',rfl,rfl,by omega,T9,by omega⟩
  ·refine wS ?_
   exact ⟨rfl,_,σ5,c5,jl,kp,l,rfl,(by repeat' (first|exact ⟨⟩|refine ⟨rfl,?_⟩)),T5,by omega⟩
 rintro s ⟨fr',σ5,c5,jl,kp,l,rfl,hfr,T5,hll⟩
 refine Ex.le ?_ (le_frs hfr)
 obtain ⟨b1,b2,b3,b4,b5,b6,b7,b8,b9⟩:=T5.b
 obtain ⟨_,_,lw⟩:=hO_ld T5.hw
 refine wN ?_
 refine ex_region_draw (bars:=[3]) mixed (by kernel_rfl) ?_
 refine zd (.ref ih 0) ?_
 refine rund_ld rfl lw (by decide) ?_
 refine zd (.ref ih 0) ?_
 refine rund_sto rfl (hO_stw T5.h1) ?_
 apply rund_nil
 refine wS ?_
 refine endx (.inr rfl) (gs:=[.ref ih 0,.agg [vI d,.rsl jl 0 l.length]]) ?_ ⟨.ref ih 0,d,jl,l,rfl,by rw [sget_ne (by omega)]; exact T5.hl,by omega,by omega,fun k hk => by rw [sget_ne (by omega)]; exact T5.hk k hk,T5.l1,by omega,T5.l2,by unfold Is64; omega⟩
 exact res_tc (a:=8) (b:=9) (t:=36) rfl rfl (hO_ld (sget_eq rfl)).2.2
end
end Go.Proofs.YtpehhhbmobmedaaGreatDoor
