/- All sets of a tree: the iterator 'all', at any depth, and slices.Collect over it. -/
import Derived.Test.YtappaadadkoamaaTYield
namespace Go.Proofs.Ytappaadadkoamaa
open Go.RowKit Go.Shelf
set_option linter.unusedVariables false
attribute [local go_sem] Oper.semAt_some

def setsF : Nat → List Int → List (List Int)
  | 0, _ => []
  | f + 1, l => if l.length = 0 then [] else l :: (setsF f (kidsOf l).1 ++ setsF f (kidsOf l).2)
theorem kidsOf_len (zs : List Int) (h : zs.length ≠ 0) : (kidsOf zs).1.length < zs.length ∧ (kidsOf zs).2.length < zs.length := by
  unfold kidsOf
  split
  · simp; omega
  · have h1 := leftOf_lt (n := zs.length) (by omega)
    have h2 := leftOf_pos zs.length
    simp; omega

set_option maxHeartbeats 400000 in
theorem all_any (w : World) (v : Value) (hv : IsSlice v) : Calls Try.prog 28 #[v] w fun e w' => e = .returned (.func (.func 34) #[] #[.pointer (some ⟨w.heap.size, 0, none⟩)]) ∧ w' = w.alloc (.cells #[v] 22) := by
  obtain ⟨a, n, c, rfl⟩ := hv
  go_enter Try.func28, Try.ntmps28
  go_wp2
  go_ret
  exact ⟨rfl, rfl⟩

/-- What is asked of a body that never panics. -/
def NoPanic (Q : Exit → Act → World → Prop) (e : Exit) (a : Act) (w : World) : Prop :=
  match e with
  | .panic _ => False
  | .outgrown => False
  | .normal => Q .normal a w
  | .ret => Q .ret a w
  | .exit _ => False
  | .goto _ => False
theorem NoPanic.of {Q : Exit → Act → World → Prop} : ∀ e a w, NoPanic Q e a w → Q e a w := by
  intro e a w h
  cases e <;> first | exact h | exact h.elim
theorem callsIn_marks {P : Program} {f : FuncId} {fn : Func} {c : Code} {args : Array Value} {w : World} {R : Ending → World → Prop} (hf : P.funcs[f]? = some fn) (hb : fn.body = some c)
    (h : c.wpIn Fence.wide 9 P (NoPanic (bodyPostM Fence.wide 9 P fn R)) { tmps := args ++ Array.replicate (fn.ntmps - args.size) undef, defers := [] } w) : Calls P f args w R :=
  callsIn_wide.1 (callsIn_of_wp_marks hf hb trivial (wpIn_mono h NoPanic.of) rfl)

theorem wpIn_seq_cut {F : Fence} {n : Nat} {P : Program} {x y : Code} {Q : Exit → Act → World → Prop} {a : Act} {w : World} (M : Act → World → Prop) (h1 : ∀ K : Act → World → Prop, (∀ a w, M a w → K a w) → x.wpIn F n P (Exit.then K Q) a w) (h2 : ∀ a w, M a w → y.wpIn F n P Q a w) :
    (Code.seq x y).wpIn F n P Q a w := wpIn_seq (h1 _ h2)

def markOf (D : Nat) : Deferred := { target := .collected D, args := #[] }
def shutAll (ds : List Nat) (w : World) : World := ds.foldl (fun w D => w.putObj D (.deferred none)) w
theorem leaves_marks {F : Fence} {n : Nat} {P : Program} {fn : Func} {tmps : Array Value} {R : Ending → World → Prop} : ∀ (ds : List Nat) (w : World), (∀ D ∈ ds, w.heap[D]? = some (.deferred (some []))) → ds.Nodup → LeavesInM F n P fn tmps R [] .returning (shutAll ds w) → LeavesInM F n P fn tmps R (ds.map markOf) .returning w
  | [], w, _, _, h => h
  | D :: ds, w, hd, hn, h => by
    obtain ⟨n1, n2⟩ := List.nodup_cons.1 hn
    refine ⟨by simp, .inl ⟨D, _, rfl, run_takeDeferred (hd D (by simp)), ?_⟩⟩
    refine leaves_marks ds _ (fun D' hD' => ?_) n2 h
    rw [World.putObj_heap_other (fun e => n1 (by subst e; exact hD'))]
    exact hd D' (by simp [hD'])
/-- What is shut are blocks of ours, from B on. -/
theorem Party.shut {Fo : World → Nat → Prop} {B : Nat} {J : List Value → World → Prop} (h : Party Fo B J) {pre : List Value} {E : World} (hE : E.heap.size ≤ B) : ∀ (ds : List Nat) (w : World), J pre w → Round Fo E w → (∀ D ∈ ds, B ≤ D ∧ w.heap[D]? = some (.deferred (some [])) ∧ ¬ Fo w D) → ds.Nodup →
    J pre (shutAll ds w) ∧ Round Fo E (shutAll ds w) ∧ ∀ lo hi us ls, Each w lo hi us ls → (∀ u ∈ us, Ours Fo w u) → Each (shutAll ds w) lo hi us ls ∧ ∀ u ∈ us, Ours Fo (shutAll ds w) u
  | [], w, hJ, hR, _, _ => ⟨hJ, hR, fun _ _ _ _ a b => ⟨a, b⟩⟩
  | D :: ds, w, hJ, hR, hd, hn => by
    obtain ⟨n1, n2⟩ := List.nodup_cons.1 hn
    obtain ⟨d1, d2, d3⟩ := hd D (by simp)
    obtain ⟨p1, p2⟩ := h.put hJ (l := D) d1 d3 (.deferred none)
    obtain ⟨q1, q2, q3⟩ := Party.shut h hE ds (w.putObj D (.deferred none)) p1 (hR.put (by omega) _ p2) (fun D' hD' => by
      obtain ⟨e1, e2, e3⟩ := hd D' (by simp [hD'])
      exact ⟨e1, (World.putObj_heap_other (fun e => n1 (by subst e; exact hD'))).trans e2, fun x => e3 (p2 _ x)⟩) n2
    refine ⟨q1, q2, fun lo hi us ls hE' hO => q3 lo hi us ls (hE'.keepsOwn (keeps_put _) (fun b hb e => ?_)) (fun u hu b hb x => hO u hu b hb (p2 _ x))⟩
    obtain ⟨cur, hc⟩ := hb
    subst e
    rw [d2] at hc
    cases hc
theorem shutAll_size : ∀ (ds : List Nat) (w : World), (shutAll ds w).heap.size = w.heap.size
  | [], _ => rfl
  | D :: ds, w => (shutAll_size ds _).trans (by simp)

theorem mixed : Try.prog.follows .mixedOrders = true := by kernel_rfl


set_option maxRecDepth 100000 in
set_option maxHeartbeats 1000000 in
theorem all_nil (w : World) (Bx : Nat) (v : Value) (lo hi : Nat) (hB : Blk w Bx 22 [v]) (hI : IntsT w lo hi v []) : SeqT Try.prog 34 #[.pointer (some ⟨Bx, 0, none⟩)] (fun b => b = Bx ∨ v.ownBlock = some b) [] w := by
  intro lid J Fo pre N W hb hP hcap hN hY hJ
  obtain ⟨a, cap, rfl, _, _⟩ := hI.form
  have hBx := hB.keeps (Keeps.below hb) (by have := hB.lt; omega)
  have c0 := cell_of_blk hBx (i := 0) rfl
  have hBl := hBx.lt
  have HP := Lib.hid hP
  have HJ := Lib.hid hJ
  clear hY hcap hP hJ hB hBx hI hN
  go_enter Try.func34, Try.ntmps34
  go_wp2
  go_quiet (fail)
  go_wp2
  refine bodyPost_ret (results_none rfl _ _ _) rfl ?_
  have hBel : Below W.heap.size W ((W.alloc (.cells #[.func (.yield lid) #[] #[]] 32)).drewN nq) := by
    have h := (Below.refl W.heap.size W).alloc (Nat.le_refl _) (.cells #[.func (.yield lid) #[] #[]] 32)
    exact ⟨h.os, h.tape, h.output, h.size, h.block⟩
  obtain ⟨h1, h2⟩ := HP.out.later HJ.out hBel
  exact ⟨⟨_, rfl⟩, [], Each.nil _ _ _, by simp, by simpa using h1, h2⟩

/-- What lies there once the first one has been told. -/
structure AllSt (Fo : World → Nat → Prop) (B b2 g6 lid : Nat) (one two : Value) (ks : List Int × List Int) (vs : List Value) (ls : List (List Int)) (ds : List Nat) (X : World) : Prop where
  oneI : IntsT X B X.heap.size one ks.1
  oneO : Ours Fo X one
  twoI : IntsT X B X.heap.size two ks.2
  twoO : Ours Fo X two
  box : Blk X b2 32 [.func (.yield lid) #[] #[]]
  boxO : ¬ Fo X b2
  row : Blk X g6 22 [one, two]
  rowO : ¬ Fo X g6
  each : Each X B X.heap.size vs ls
  eachO : ∀ u ∈ vs, Ours Fo X u
  marks : ∀ D ∈ ds, B ≤ D ∧ X.heap[D]? = some (.deferred (some [])) ∧ ¬ Fo X D
  nodup : ds.Nodup

theorem AllSt.round {Fo : World → Nat → Prop} {B b2 g6 lid : Nat} {one two : Value} {ks : List Int × List Int} {vs : List Value} {ls : List (List Int)} {ds : List Nat} {X Y : World} (h : AllSt Fo B b2 g6 lid one two ks vs ls ds X) (r : Round Fo X Y) : AllSt Fo B b2 g6 lid one two ks vs ls ds Y := by
  obtain ⟨a1, a2⟩ := r.ints h.oneI h.oneO
  obtain ⟨b1, b2⟩ := r.ints h.twoI h.twoO
  obtain ⟨c1, c2⟩ := r.blk h.box h.boxO
  obtain ⟨d1, d2⟩ := r.blk h.row h.rowO
  obtain ⟨e1, e2⟩ := r.each h.each h.eachO
  refine ⟨a1.mono (Nat.le_refl _) r.size, a2, b1.mono (Nat.le_refl _) r.size, b2, c1, c2, d1, d2, e1.mono (Nat.le_refl _) r.size, e2, fun D hD => ?_, h.nodup⟩
  obtain ⟨m1, m2, m3⟩ := h.marks D hD
  obtain ⟨q1, q2⟩ := r.block D (Array.getElem?_eq_some_iff.1 m2).1 m3
  exact ⟨m1, q1.trans m2, q2⟩

/-- How the frame stands at the head of the loop over the two. -/
def AllFrame (lid Bx b2 g6 : Nat) (one two : Value) (ds : List Nat) (j : Nat) (a : Act) : Prop :=
  ∃ s5 s6 s7 s8 s9 s10 s11 s12 s13 s14 s15 s16 s17 s18 s19 s20 s21 s22 s23 s24 s28 s29 s30 s31 s32 s33 s34 s35 s36 s37 s38 : Value,
    a = { tmps := #[.func (.yield lid) #[] #[], .pointer (some ⟨Bx, 0, none⟩), .pointer (some ⟨b2, 0, none⟩), one, two, s5, s6, s7, s8, s9, s10, s11, s12, s13, s14, s15, s16, s17, s18, s19, s20, s21, s22, s23, s24, .slice (some ⟨g6, 0, none⟩) 2 2, .int .i64 2, .int .i64 j, s28, s29, s30, s31, s32, s33, s34, s35, s36, s37, s38], defers := ds.map markOf }

def AllInv (J : List Value → World → Prop) (Fo : World → Nat → Prop) (W : World) (pre : List Value) (lid Bx b2 g6 f : Nat) (one two : Value) (zs : List Int) (ks : List Int × List Int) (a : Act) (X : World) : Prop :=
  ∃ (j : Nat) (ds : List Nat) (vs : List Value), j ≤ 2 ∧ AllFrame lid Bx b2 g6 one two ds j a ∧ AllSt Fo W.heap.size b2 g6 lid one two ks vs (zs :: ((if 1 ≤ j then setsF f ks.1 else []) ++ (if 2 ≤ j then setsF f ks.2 else []))) ds X ∧ J (pre ++ vs) X ∧ Round Fo W X

set_option maxRecDepth 100000 in
set_option maxHeartbeats 2000000 in
theorem all_some (f : Nat) (ih : ∀ (zs : List Int) (w : World) (Bx : Nat) (v : Value) (lo hi : Nat), zs.length ≤ f → zs.length ≤ 16 → Blk w Bx 22 [v] → IntsT w lo hi v zs → SeqT Try.prog 34 #[.pointer (some ⟨Bx, 0, none⟩)] (fun b => b = Bx ∨ v.ownBlock = some b) (setsF f zs) w)
    (zs : List Int) (hz : zs.length ≠ 0) (hzf : zs.length ≤ f + 1) (hz16 : zs.length ≤ 16) (w : World) (Bx : Nat) (v : Value) (lo hi : Nat) (hB : Blk w Bx 22 [v]) (hI : IntsT w lo hi v zs) : SeqT Try.prog 34 #[.pointer (some ⟨Bx, 0, none⟩)] (fun b => b = Bx ∨ v.ownBlock = some b) (zs :: (setsF f (kidsOf zs).1 ++ setsF f (kidsOf zs).2)) w := by
  intro lid J Fo pre N W hb hP hcap hN hY hJ
  obtain ⟨a, cap, rfl, _, _⟩ := hI.form
  have hBx := hB.keeps (Keeps.below hb) (by have := hB.lt; omega)
  have hI' := hI.below hb
  have fBx := hcap Bx (.inl rfl)
  have fv : Ours Fo W (.slice a zs.length cap) := fun b hb => hcap b (.inr hb)
  have hBl := hBx.lt
  have hlen : decide (zs.length = 0) = false := by simpa using hz
  have hlen2 : ((zs.length : Int) == 0) = false := by simpa using hz
  obtain ⟨kl1, kl2⟩ := kidsOf_len zs hz
  have HP := Lib.hid hP
  have HJ := Lib.hid hJ
  have HY := Lib.hid hY
  have HI := Lib.hid hI'
  have HBx := Lib.hid hBx
  have HN := Lib.hid hN
  have HFV := Lib.hid fv
  have HFB := Lib.hid fBx
  have HN1 : Hid (pre.length < N) := Lib.hid (by simp only [List.length_cons] at hN; omega)
  have HIH := Lib.hid ih
  have HKL : Hid ((kidsOf zs).1.length ≤ f ∧ (kidsOf zs).2.length ≤ f) := Lib.hid ⟨by omega, by omega⟩
  have HKL2 : Hid ((kidsOf zs).1.length ≤ 16 ∧ (kidsOf zs).2.length ≤ 16) := Lib.hid ⟨by omega, by omega⟩
  obtain ⟨W2, hW2⟩ : ∃ W2, W2 = W.alloc (.cells #[.func (.yield lid) #[] #[]] 32) := ⟨_, rfl⟩
  have HB2 : Hid (Below W.heap.size W W2) := Lib.hid (by rw [hW2]; exact (Below.refl W.heap.size W).alloc (Nat.le_refl _) _)
  have HK2 : Hid (Blk W2 W.heap.size 32 [.func (.yield lid) #[] #[]]) := Lib.hid (by rw [hW2]; exact Blk.new W 32 [.func (.yield lid) #[] #[]])
  obtain ⟨hJ2, hR2⟩ := hP.later hJ HB2.out
  have HJ2 := Lib.hid hJ2
  have HR2 := Lib.hid hR2
  have HF2 : Hid (¬ Fo W2 W.heap.size) := Lib.hid (hP.fresh hJ HB2.out (Nat.le_refl _))
  have c0 : W2.cell? ⟨Bx, 0, none⟩ = some (.slice a zs.length cap) := (HB2.out.cell (p := ⟨Bx, 0, none⟩) hBl).trans (cell_of_blk hBx (i := 0) rfl)
  have c2 : W2.cell? ⟨W.heap.size, 0, none⟩ = some (.func (.yield lid) #[] #[]) := cell_of_blk HK2.out (i := 0) rfl
  have s2 : W.heap.size < W2.heap.size := HK2.out.lt
  have HW2 := Lib.hid hW2
  clear hW2
  have hfol := mixed
  clear hY hcap hP hJ hB hBx hI hN hI' fv fBx hz ih hJ2 hR2 kl1 kl2 hzf
  refine callsIn_marks Try.func34 rfl ?_
  simp only [Try.ntmps34, List.size_toArray, List.length_cons, List.length_nil, Nat.reduceAdd, Nat.reduceSub, Array.replicate_succ, Array.replicate_zero, List.push_toArray, List.append_toArray, List.nil_append, List.cons_append]
  refine wpIn_seq_cut (M := fun a' w' => a' = { tmps := #[.func (.yield lid) #[] #[], .pointer (some ⟨Bx, 0, none⟩), .pointer (some ⟨W.heap.size, 0, none⟩), undef, undef, undef, undef, undef, undef, undef, undef, undef, undef, undef, undef, undef, undef, undef, undef, undef, undef, undef, undef, undef, undef, undef, undef, undef, undef, undef, undef, undef, undef, undef, undef, undef, undef, undef, undef], defers := [] } ∧ W2 = w') (fun K hK => ?_) ?_
  · have HKK := Lib.hid hK
    clear hK
    gi_wp2
    exact HKK.out _ _ ⟨rfl, HW2.out⟩
  rintro a' w' ⟨rfl, rfl⟩
  refine wpIn_seq_cut (M := fun a' w' => ∃ (u1 : Value) (s8 s9 s10 s11 s12 s13 s14 s15 s16 s17 : Value), a' = { tmps := #[.func (.yield lid) #[] #[], .pointer (some ⟨Bx, 0, none⟩), .pointer (some ⟨W.heap.size, 0, none⟩), undef, undef, undef, undef, undef, s8, s9, s10, s11, s12, s13, s14, s15, s16, s17, undef, undef, undef, undef, undef, undef, undef, undef, undef, undef, undef, undef, undef, undef, undef, undef, undef, undef, undef, undef, undef], defers := [] } ∧
      IntsT w' W.heap.size w'.heap.size u1 zs ∧ Ours Fo w' u1 ∧ J (pre ++ [u1]) w' ∧ Round Fo W2 w') (fun K hK => ?_) ?_
  · have HKK := Lib.hid hK
    clear hK
    gi_wp2
    gi_region_with_o (first | (refine ⟨trivial, ?_⟩; gi_at_call 30; refine (callsIn_wide.2 (clone_any _ lo hi (.slice a zs.length cap) zs ((HI.out.below HB2.out).below (Below.refl _ _).drew) (by omega))).mono ?_; rintro e w3 ⟨u1, rfl, hI1, hB1⟩; have c3 : w3.cell? ⟨W.heap.size, 0, none⟩ = some (.func (.yield lid) #[] #[]) := (hB1.cell (p := ⟨W.heap.size, 0, none⟩) s2).trans c2; have HI1 := Lib.hid hI1; have HB3 : Hid (Below W2.heap.size W2 w3) := Lib.hid (((Below.refl W2.heap.size W2).drew).trans hB1); obtain ⟨hJ3, hR3⟩ := HP.out.later HJ2.out HB3.out; have HU3 : Hid (Ours Fo w3 u1) := Lib.hid (fun b hb => HP.out.fresh HJ2.out HB3.out (hI1.own hb).1); obtain ⟨fn', tm', as', bd', hy, hRd⟩ := HY.out 8 pre u1 w3 hJ3 HN1.out hI1.isSlice; have HRd := Lib.hid hRd; have HR3 := Lib.hid hR3; clear hI1 hB1 hJ3 hR3 hRd) | (refine HRd.out.mono ?_; rintro e w4 ⟨rfl, hJ4, hR4⟩; have HJ4 := Lib.hid hJ4; have HR4 := Lib.hid hR4; clear hJ4 hR4 hy))
    all_goals gi_wp2
    all_goals
      obtain ⟨i1, i2⟩ := HR4.out.ints HI1.out HU3.out
      exact HKK.out _ _ ⟨u1, _, _, _, _, _, _, _, _, _, _, rfl, i1.mono (Nat.le_of_lt s2) HR4.out.size, i2, HJ4.out, HR3.out.trans HR4.out⟩
  rintro a' w4 ⟨u1, s8, s9, s10, s11, s12, s13, s14, s15, s16, s17, rfl, hI4, hO4, hJ4, hR4⟩
  have hRW : Round Fo W w4 := HR2.out.trans hR4
  obtain ⟨v1, v2⟩ := hRW.ints HI.out HFV.out
  obtain ⟨b1, b2⟩ := hRW.blk HBx.out HFB.out
  obtain ⟨y1, y2⟩ := hR4.blk HK2.out HF2.out
  have c0 : w4.cell? ⟨Bx, 0, none⟩ = some (.slice a zs.length cap) := cell_of_blk b1 (i := 0) rfl
  have s4 := hRW.size
  have HI4 := Lib.hid hI4
  have HO4 := Lib.hid hO4
  have HJ4 := Lib.hid hJ4
  have HRW := Lib.hid hRW
  have HV1 := Lib.hid v1
  have HY1 := Lib.hid y1
  have HY2 := Lib.hid y2
  clear hI4 hO4 hJ4 hR4 hRW v1 v2 b1 b2 y1 y2 c2 HK2 HF2 HR2 HJ2 HB2 HW2 hlen hlen2 hfol s2
  gi_wp2_with (first | (refine ⟨trivial, ?_⟩; gi_at_call 15; refine (callsIn_wide.2 (kids_any w4 lo hi (.slice a zs.length cap) zs HV1.out hz16)).mono ?_; rintro e w5 ⟨one, two, rfl, hk1, hk2, hB5⟩; obtain ⟨a1, cp1, rfl, _, _⟩ := hk1.form; obtain ⟨a2, cp2, rfl, _, _⟩ := hk2.form; have HK1 := Lib.hid hk1; have HK2 := Lib.hid hk2; have HB5 := Lib.hid hB5; clear hk1 hk2 hB5))
  have F5 : Hid (J (pre ++ [u1]) w5 ∧ Round Fo w4 w5) := Lib.hid (HP.out.later HJ4.out HB5.out)
  obtain ⟨W6, hW6⟩ : ∃ W6, w5.alloc (.cells #[.slice a1 (kidsOf zs).1.length cp1, .slice a2 (kidsOf zs).2.length cp2] 22) = W6 := ⟨_, rfl⟩
  have HB6 : Hid (Below w5.heap.size w5 W6) := Lib.hid (by rw [← hW6]; exact (Below.refl w5.heap.size w5).alloc (Nat.le_refl _) _)
  have HG6 : Hid (Blk W6 w5.heap.size 22 [.slice a1 (kidsOf zs).1.length cp1, .slice a2 (kidsOf zs).2.length cp2]) := Lib.hid (by rw [← hW6]; exact Blk.new w5 22 [.slice a1 (kidsOf zs).1.length cp1, .slice a2 (kidsOf zs).2.length cp2])
  have F6 : Hid (J (pre ++ [u1]) W6 ∧ Round Fo w5 W6) := Lib.hid (HP.out.later F5.out.1 HB6.out)
  have HSt : Hid (AllSt Fo W.heap.size W.heap.size w5.heap.size lid (.slice a1 (kidsOf zs).1.length cp1) (.slice a2 (kidsOf zs).2.length cp2) (kidsOf zs) [u1] [zs] [] W6) := Lib.hid (by
    have R46 := F5.out.2.trans F6.out.2
    have m4 : W.heap.size ≤ w4.heap.size := s4
    have m5 : w4.heap.size ≤ w5.heap.size := F5.out.2.size
    have m6 : w5.heap.size ≤ W6.heap.size := F6.out.2.size
    have o1 : Ours Fo w5 (.slice a1 (kidsOf zs).1.length cp1) := fun b hb => HP.out.fresh HJ4.out HB5.out (HK1.out.own hb).1
    have o2 : Ours Fo w5 (.slice a2 (kidsOf zs).2.length cp2) := fun b hb => HP.out.fresh HJ4.out HB5.out (HK2.out.own hb).1
    obtain ⟨p1, p2⟩ := F6.out.2.ints HK1.out o1
    obtain ⟨q1, q2⟩ := F6.out.2.ints HK2.out o2
    obtain ⟨y1, y2⟩ := R46.blk HY1.out HY2.out
    obtain ⟨e1, e2⟩ := R46.each (Each.single HI4.out) (fun u hu => by simp only [List.mem_singleton] at hu; subst hu; exact HO4.out)
    exact ⟨p1.mono m4 m6, p2, q1.mono m4 m6, q2, y1, y2, HG6.out, HP.out.fresh F5.out.1 HB6.out (Nat.le_refl _), e1.mono (Nat.le_refl _) (by omega), e2, by simp, by simp⟩)
  have HR6 : Hid (Round Fo W W6) := Lib.hid ((HRW.out.trans F5.out.2).trans F6.out.2)
  have HJ6 : Hid (J (pre ++ [u1]) W6) := Lib.hid F6.out.1
  rw [hW6]
  clear hW6 F5 F6 HG6 HB6 HK1 HK2 HB5 HI4 HO4 HJ4 HRW HV1 HY1 HY2 s4 c0
  obtain ⟨g6, hg6⟩ : ∃ g6, w5.heap.size = g6 := ⟨_, rfl⟩
  rw [hg6] at HSt ⊢
  clear hg6
  refine wpIn_loop (AllInv J Fo W pre lid Bx W.heap.size g6 f (.slice a1 (kidsOf zs).1.length cp1) (.slice a2 (kidsOf zs).2.length cp2) zs (kidsOf zs)) (fun a _ => 2 - (intOf (a.tmps.getD 27 undef)).toNat) ⟨0, [], [u1], by omega, ⟨_, _, _, _, _, _, _, _, _, _, _, _, _, _, _, _, _, _, _, _, _, _, _, _, _, _, _, _, _, _, _, rfl⟩, by simpa using HSt.out, HJ6.out, HR6.out⟩ ?_
  clear HSt HJ6 HR6
  rintro a' X ⟨j, ds, vs, hj, ⟨s5, s6, s7, s8, s9, s10, s11, s12, s13, s14, s15, s16, s17, s18, s19, s20, s21, s22, s23, s24, s28, s29, s30, s31, s32, s33, s34, s35, s36, s37, s38, rfl⟩, hS, hJ, hR⟩
  have HS := Lib.hid hS
  have HJX := Lib.hid hJ
  have HRX := Lib.hid hR
  clear hS hJ hR
  by_cases hj2 : j < 2
  · obtain ⟨ka, kc, kz, hkc, hkI, hkO, hkl, hk16, hls⟩ : ∃ (ka : Option Addr) (kc : Nat) (kz : List Int), X.cell? ⟨g6, j, none⟩ = some (.slice ka kz.length kc) ∧ IntsT X W.heap.size X.heap.size (.slice ka kz.length kc) kz ∧ Ours Fo X (.slice ka kz.length kc) ∧ kz.length ≤ f ∧ kz.length ≤ 16 ∧
        (zs :: ((if 1 ≤ j + 1 then setsF f (kidsOf zs).1 else []) ++ (if 2 ≤ j + 1 then setsF f (kidsOf zs).2 else []))) = (zs :: ((if 1 ≤ j then setsF f (kidsOf zs).1 else []) ++ (if 2 ≤ j then setsF f (kidsOf zs).2 else []))) ++ setsF f kz := by
      rcases (show j = 0 ∨ j = 1 by omega) with rfl | rfl
      · exact ⟨a1, cp1, (kidsOf zs).1, cell_of_blk HS.out.row rfl, HS.out.oneI, HS.out.oneO, HKL.out.1, HKL2.out.1, by simp⟩
      · exact ⟨a2, cp2, (kidsOf zs).2, cell_of_blk HS.out.row rfl, HS.out.twoI, HS.out.twoO, HKL.out.2, HKL2.out.2, by simp⟩
    have HKI := Lib.hid hkI
    have HKO := Lib.hid hkO
    have HKF := Lib.hid hkl
    have HK16 := Lib.hid hk16
    have HLS := Lib.hid hls
    clear hkI hkO hkl hk16 hls
    have hj0 : (0 : Int) ≤ (j : Int) := by omega
    have hj3 : (j : Int) < 2 := by omega
    obtain ⟨X1, hX1⟩ : ∃ X1, X.alloc (.cells #[.slice ka kz.length kc] 22) = X1 := ⟨_, rfl⟩
    have HX1 := Lib.hid hX1
    have HBX : Hid (Below X.heap.size X X1) := Lib.hid (by rw [← hX1]; exact (Below.refl X.heap.size X).alloc (Nat.le_refl _) _)
    have HKX : Hid (Blk X1 X.heap.size 22 [.slice ka kz.length kc]) := Lib.hid (by rw [← hX1]; exact Blk.new X 22 [.slice ka kz.length kc])
    have FX : Hid (J (pre ++ vs) X1 ∧ Round Fo X X1) := Lib.hid (HP.out.later HJX.out HBX.out)
    clear hX1
    gi_wp2_with (first | (refine ⟨trivial, ?_⟩; gi_at_call 28; refine (callsIn_wide.2 (all_any X (.slice ka kz.length kc) ⟨_, _, _, rfl⟩)).mono ?_; rintro e X2 ⟨rfl, hX2⟩; obtain rfl : X1 = X2 := (hX2.trans HX1.out).symm; clear hX2))
    have HNX : Hid ((pre ++ vs).length + (setsF f kz).length ≤ N) := Lib.hid (by
      have h1 := HN.out
      have h2 := HS.out.each.1
      have h3 := congrArg List.length HLS.out
      rw [List.length_append, ← h2] at h3
      have h4 : (zs :: ((if 1 ≤ j + 1 then setsF f (kidsOf zs).1 else []) ++ (if 2 ≤ j + 1 then setsF f (kidsOf zs).2 else []))).length ≤ (zs :: (setsF f (kidsOf zs).1 ++ setsF f (kidsOf zs).2)).length := by
        rcases (show j = 0 ∨ j = 1 by omega) with rfl | rfl <;> simp
      rw [List.length_append]
      omega)
    have HSX : Hid (AllSt Fo W.heap.size W.heap.size g6 lid (.slice a1 (kidsOf zs).1.length cp1) (.slice a2 (kidsOf zs).2.length cp2) (kidsOf zs) vs (zs :: ((if 1 ≤ j then setsF f (kidsOf zs).1 else []) ++ (if 2 ≤ j then setsF f (kidsOf zs).2 else []))) ds X1) := Lib.hid (HS.out.round FX.out.2)
    have HWX : Hid (W.heap.size ≤ X1.heap.size) := Lib.hid (Nat.le_trans HRX.out.size HBX.out.size)
    have HSeq : Hid (SeqT Try.prog 34 #[.pointer (some ⟨X.heap.size, 0, none⟩)] (fun b => b = X.heap.size ∨ (Value.slice ka kz.length kc).ownBlock = some b) (setsF f kz) X1) := Lib.hid (HIH.out kz X1 X.heap.size _ W.heap.size X.heap.size HKF.out HK16.out HKX.out ((FX.out.2.ints HKI.out HKO.out).1))
    have HCap : Hid (∀ b, (b = X.heap.size ∨ (Value.slice ka kz.length kc).ownBlock = some b) → b < X1.heap.size ∧ ¬ Fo X1 b) := Lib.hid (fun b hb => by
      rcases hb with rfl | hb
      · exact ⟨HKX.out.lt, HP.out.fresh HJX.out HBX.out (Nat.le_refl _)⟩
      · obtain ⟨q1, q2⟩ := FX.out.2.ints HKI.out HKO.out
        exact ⟨(q1.2 b hb).lt, q2 b hb⟩)
    refine range_all (hseq := HSeq.out) (hcap := HCap.out) (hP := HP.out) (hB := HWX.out) (h0 := FX.out.1) (hN := HNX.out) rfl (enters_of Try.func34 (by kernel_rfl) rfl) rfl ?a1 ?assign ?body ?done
    case assign =>
      intro l u Wr K hu hK
      have HKK := Lib.hid hK
      clear hK
      gi_wp2
      exact HKK.out
    case body =>
      intro l pre' u Wr hl hu hJr hlen hkk
      obtain ⟨ua, un, uc, rfl⟩ := id hu
      have cb : Wr.cell? ⟨W.heap.size, 0, none⟩ = some (.func (.yield lid) #[] #[]) := cell_of_blk ((hkk W.heap.size HSX.out.box.lt HSX.out.boxO).trans HSX.out.box) (i := 0) rfl
      obtain ⟨fn', tm', as', bd', hy, hRd⟩ := HY.out (9 - 1 - 1 - 1) pre' _ Wr hJr hlen hu
      have HRd : Hid (RoundIn (Fence.wide.inRound l) (9 - 1 - 1 - 1) Try.prog lid fn' tm' as' bd' Wr fun e W' => e = .returned (.bool true) ∧ J (pre' ++ [.slice ua un uc]) W' ∧ Round Fo Wr W') := Lib.hid hRd
      clear hRd hJr hlen hkk hu
      gi_wp2
      refine HRd.out.mono ?_
      rintro e W' ⟨rfl, hJ', hR'⟩
      have HJ' := Lib.hid hJ'
      have HR' := Lib.hid hR'
      clear hJ' hR' hy
      gi_wp2
      exact ⟨HJ'.out, HR'.out⟩
    case done =>
      intro D us X3 hD hE hO hJ3 hR3 hD3 hF3
      have HI3 : Hid (∀ a', AllFrame lid Bx W.heap.size g6 (.slice a1 (kidsOf zs).1.length cp1) (.slice a2 (kidsOf zs).2.length cp2) (D :: ds) (j + 1) a' → AllInv J Fo W pre lid Bx W.heap.size g6 f (.slice a1 (kidsOf zs).1.length cp1) (.slice a2 (kidsOf zs).2.length cp2) zs (kidsOf zs) a' X3) := Lib.hid (fun a' ha => by
        refine ⟨j + 1, D :: ds, vs ++ us, hj2, ha, ?_, by rw [← List.append_assoc]; exact hJ3, (HRX.out.trans FX.out.2).trans hR3⟩
        have S3 := HSX.out.round hR3
        rw [HLS.out]
        refine ⟨S3.oneI, S3.oneO, S3.twoI, S3.twoO, S3.box, S3.boxO, S3.row, S3.rowO, S3.each.append (hE.mono HWX.out (Nat.le_refl _)), ?_, ?_, ?_⟩
        · intro u hu
          rcases List.mem_append.1 hu with h | h
          · exact S3.eachO u h
          · exact hO u h
        · intro D' hD'
          rcases List.mem_cons.1 hD' with rfl | h
          · exact ⟨Nat.le_trans HWX.out hD, hD3, hF3⟩
          · exact S3.marks D' h
        · refine List.nodup_cons.2 ⟨fun h => ?_, S3.nodup⟩
          have := (Array.getElem?_eq_some_iff.1 (HSX.out.marks D h).2.1).1
          omega)
      clear hE hO hJ3 hR3 hD3 hF3
      gi_wp2
      exact ⟨HI3.out _ ⟨_, _, _, _, _, _, _, _, _, _, _, _, _, _, _, _, _, _, _, _, _, _, _, _, _, _, _, _, _, _, _, rfl⟩, by simp [intOf]; omega⟩
  · obtain rfl : j = 2 := by omega
    gi_wp2
    have hfin := HP.out.shut (Nat.le_refl _) ds X HJX.out HRX.out HS.out.marks HS.out.nodup
    refine leaves_marks ds X (fun D hD => (HS.out.marks D hD).2.1) HS.out.nodup ?_
    obtain ⟨f1, f2, f3⟩ := hfin
    obtain ⟨g1, g2⟩ := f3 _ _ _ _ HS.out.each HS.out.eachO
    refine ⟨_, results_none rfl _ _ _, ⟨_, rfl⟩, vs, ?_, g2, f1, f2⟩
    rw [shutAll_size]
    simpa using g1

theorem all_seq : ∀ (f : Nat) (zs : List Int) (w : World) (Bx : Nat) (v : Value) (lo hi : Nat), zs.length ≤ f → zs.length ≤ 16 → Blk w Bx 22 [v] → IntsT w lo hi v zs →
    SeqT Try.prog 34 #[.pointer (some ⟨Bx, 0, none⟩)] (fun b => b = Bx ∨ v.ownBlock = some b) (setsF f zs) w
  | 0, zs, w, Bx, v, lo, hi, hf, _, hB, hI => by
    have hz : zs = [] := List.eq_nil_of_length_eq_zero (by omega)
    subst hz
    exact all_nil w Bx v lo hi hB hI
  | f + 1, zs, w, Bx, v, lo, hi, hf, h16, hB, hI => by
    by_cases hz : zs.length = 0
    · have hz' : zs = [] := List.eq_nil_of_length_eq_zero hz
      subst hz'
      exact all_nil w Bx v lo hi hB hI
    · rw [setsF, if_neg hz]
      exact all_some f (all_seq f) zs hz hf h16 w Bx v lo hi hB hI

/-! ### AppendSeq, Collect, Sets -/
/-- The row that is gathered: its box is block Bs. -/
def GatherJ (B Bs : Nat) (pre : List Value) (W : World) : Prop := ∃ s, Blk W Bs 24 [s] ∧ W.ownsRow B 22 1 s pre.length pre
def GatherFo (Bs : Nat) (W : World) (k : Nat) : Prop := k = Bs ∨ ∃ s, Blk W Bs 24 [s] ∧ s.ownBlock = some k

theorem gather_party {B Bs B' : Nat} (h : Bs < B') : Party (GatherFo Bs) B' (GatherJ B Bs) := by
  refine ⟨fun pre w k ⟨s, h1, h2⟩ hk => ?_, fun pre w w' ⟨s, h1, h2⟩ hs => ?_⟩
  · rcases hk with rfl | ⟨s', h3, h4⟩
    · exact h1.lt
    · have e := h1.symm.trans h3
      simp at e
      subst e
      exact (h2.lt k h4).2
  · have hB := hs.block Bs h1.lt (.inl h)
    have h1' : Blk w' Bs 24 [s] := hB.trans h1
    refine ⟨⟨s, h1', ?_⟩, fun k hk => ?_⟩
    · have hK : Keeps (fun b => ¬ (b < B' ∨ GatherFo Bs w b)) w w' := ⟨hs.os, hs.tape, hs.output, hs.size, fun k hk hn => hs.block k hk (Classical.not_not.1 hn)⟩
      exact ownsRow_keeps h2 hK (fun b hb hn => hn (.inr (.inr ⟨s, h1, hb⟩)))
    · rcases hk with rfl | ⟨s', h3, h4⟩
      · exact .inl rfl
      · exact .inr ⟨s', hB.symm.trans h3, h4⟩
end Go.Proofs.Ytappaadadkoamaa
