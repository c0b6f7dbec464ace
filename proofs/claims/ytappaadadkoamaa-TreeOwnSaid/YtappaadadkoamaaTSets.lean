/- slices.Collect over all sets of a tree, and tree.Sets, by their contracts. -/
import Derived.Test.YtappaadadkoamaaTAll
namespace Go.Proofs.Ytappaadadkoamaa
open Go.RowKit Go.Shelf
set_option linter.unusedVariables false
attribute [local go_sem] Oper.semAt_some

theorem blk_ne_own {w : World} {base : Nat} {e : TypeId} {size : Nat} {v : Value} {n : Nat} {xs : List Value} (h : w.ownsRow base e size v n xs) {b : Nat} {t : TypeId} {ys : List Value} (hb : Blk w b t ys) (ht : t ≠ e) : v.ownBlock ≠ some b := by
  intro x
  obtain ⟨cur, hc⟩ := own_tag h x
  have := hb.symm.trans hc
  simp at this
  exact ht this.2

/-- An append whose run is known, inside a fence. -/
theorem wpLIn_appendRun {F : Fence} {n : Nat} {P : Program} {w : World} {ops : Array Oper} {rest : List Oper} {o : Oper} {a : Act} {Q : Exit → Act → World → Prop} (hw : Region.wanted o (yielded ops a.tmps) = true) (s x : Operand) (t : TypeId)
    (hop : o.op = Op.call { callee := Callee.builtin Builtin.append, args := #[s, x], argTypes := #[t, t] }) (v u v' : Value) (w' : World) (hs : a.eval s = v) (hx : a.eval x = u) (hrun : (Builtin.append_ #[t, t] o.type #[v, u]).run P w = .ok v' w')
    (h : wpListIn F n P ops Q rest (a.put o.dst v') w') : wpListIn F n P ops Q (o :: rest) a w := by
  refine BigFrame.wpListIn_want hw fun K hK => ?_
  unfold Oper.wpIn
  refine ⟨?_, ?_⟩
  · simp [Oper.about, hop, resolve, Target.leads, Sem.run_pure]
  · rw [Oper.semAt_plain F _ _ (by rw [hop]; intro c hc'; cases hc')]
    simp [execOp, hop, resolve, invoke, builtin, hs, hx, hrun, Result.andThen]
    exact hK _ _ h

/-- What one round of the gathering leaves. -/
theorem gather_step {B Bs : Nat} {pre : List Value} {u s v' : Value} {W w1 : World} (hBs : B ≤ Bs) (h1 : Blk W Bs 24 [s]) (h2 : W.ownsRow B 22 1 s pre.length pre)
    (hown : w1.ownsRow B 22 1 v' (pre.length + 1) (pre ++ [u])) (hg : (W.alloc (.cells #[u] 22)).grownBy w1 s.ownBlock) (hv : v'.ownBlock = s.ownBlock ∨ v'.ownBlock = some (W.alloc (.cells #[u] 22)).heap.size) :
    GatherJ B Bs (pre ++ [u]) (w1.setCell ⟨Bs, 0, none⟩ v') ∧ Round (GatherFo Bs) W (w1.setCell ⟨Bs, 0, none⟩ v') := by
  have hK1 : Keeps (fun b => s.ownBlock = some b) W w1 := ((Keeps.refl (fun b => s.ownBlock = some b) W).alloc _).grown hg (fun k hk _ => hk)
  have hb1 : Blk w1 Bs 24 [s] := h1.keeps hK1 (fun h => blk_ne_own h2 h1 (by decide) h)
  have hb2 : Blk (w1.setCell ⟨Bs, 0, none⟩ v') Bs 24 [v'] := hb1.set 0 v'
  have hK2 : Keeps (fun b => b = Bs) w1 (w1.setCell ⟨Bs, 0, none⟩ v') := (Keeps.refl (fun b => b = Bs) w1).setCell (p := ⟨Bs, 0, none⟩) (fun _ => rfl) _
  refine ⟨⟨v', hb2, ?_⟩, hK2.os.trans hK1.os, hK2.tape.trans hK1.tape, hK2.output.trans hK1.output, Nat.le_trans hK1.size hK2.size, fun k hk hf => ⟨?_, ?_⟩⟩
  · rw [List.length_append]
    exact ownsRow_keeps hown hK2 (fun b hb e => by subst e; exact blk_ne_own hown hb1 (by decide) hb)
  · rw [hK2.block k (Nat.lt_of_lt_of_le hk hK1.size) (fun e => hf (.inl e)), hK1.block k hk (fun e => hf (.inr ⟨s, h1, e⟩))]
  · rintro (e | ⟨s', h3, h4⟩)
    · exact hf (.inl e)
    · have e := hb2.symm.trans h3
      simp at e
      subst e
      rcases hv with h | h
      · exact hf (.inr ⟨s, h1, h.symm.trans h4⟩)
      · rw [h] at h4
        simp at h4
        omega

set_option maxRecDepth 100000 in
set_option maxHeartbeats 2000000 in
theorem appendseq_any (w : World) (lb : Array Value) (cap : Nat → Prop) (ls : List (List Int)) (hcap : ∀ b, cap b → b < w.heap.size) (hl : ls.length ≤ 1000) (h : SeqT Try.prog 34 lb cap ls w) :
    Calls Try.prog 33 #[.slice none 0 0, .func (.func 34) #[] lb] w fun e w' => ∃ v, e = .returned v ∧ OwnT w' w.heap.size w.heap.size v ls ∧ Below w.heap.size w w' := by
  obtain ⟨i0, hi0, hz0, hz1, hz2⟩ := info_parts intsInfo3
  obtain ⟨W1, hW1⟩ : ∃ W1, w.alloc (.cells #[.slice none 0 0] 24) = W1 := ⟨_, rfl⟩
  have HB1 : Hid (Below w.heap.size w W1) := Lib.hid (by rw [← hW1]; exact (Below.refl w.heap.size w).alloc (Nat.le_refl _) _)
  have HK1 : Hid (Blk W1 w.heap.size 24 [.slice none 0 0]) := Lib.hid (by rw [← hW1]; exact Blk.new w 24 [.slice none 0 0])
  have HW1 := Lib.hid hW1
  have s1 : w.heap.size < W1.heap.size := HK1.out.lt
  have HP : Hid (Party (GatherFo w.heap.size) W1.heap.size (GatherJ w.heap.size w.heap.size)) := Lib.hid (gather_party s1)
  have HSeq : Hid (SeqT Try.prog 34 lb cap ls W1) := Lib.hid (fun lid J Fo pre N W hb => h lid J Fo pre N W (HB1.out.trans (hb.mono (Nat.le_of_lt s1))))
  have HCap : Hid (∀ b, cap b → b < W1.heap.size ∧ ¬ GatherFo w.heap.size W1 b) := Lib.hid (fun b hb => by
    have hlt := hcap b hb
    refine ⟨by omega, ?_⟩
    rintro (e | ⟨s, h3, h4⟩)
    · omega
    · have e := HK1.out.symm.trans h3
      simp at e
      subst e
      simp [Value.ownBlock] at h4)
  have HJ0 : Hid (GatherJ w.heap.size w.heap.size [] W1) := Lib.hid ⟨_, HK1.out, World.ownsRow_nil W1 _ _ _⟩
  have HLen := Lib.hid hl
  have Hz0 := Lib.hid hz0
  have Hz1 := Lib.hid hz1
  have Hz2 := Lib.hid hz2
  have Hi0 := Lib.hid hi0
  clear h hcap hl hz0 hz1 hz2 hi0 hW1
  refine callsIn_marks Try.func33 rfl ?_
  simp only [Try.ntmps33, List.size_toArray, List.length_cons, List.length_nil, Nat.reduceAdd, Nat.reduceSub, Array.replicate_succ, Array.replicate_zero, List.push_toArray, List.append_toArray, List.nil_append, List.cons_append]
  gi_wp2
  rw [HW1.out]
  refine range_all (hseq := HSeq.out) (hcap := HCap.out) (hP := HP.out) (hB := Nat.le_refl _) (h0 := HJ0.out) (N := 1000) (pre0 := []) (hN := by simpa using HLen.out) rfl (enters_of Try.func34 (by kernel_rfl) rfl) rfl ?a1 ?assign ?body ?done
  case assign =>
    intro l u Wr K hu hK
    have HKK := Lib.hid hK
    clear hK
    gi_wp2
    exact HKK.out
  case body =>
    rintro l pre u Wr hl hu ⟨s, hs1, hs2⟩ hlen hkk
    obtain ⟨ua, un, uc, rfl⟩ := id hu
    obtain ⟨sa, sc, rfl⟩ := own_form hs2
    have c0 : Wr.cell? ⟨w.heap.size, 0, none⟩ = some (.slice sa pre.length sc) := cell_of_blk hs1 (i := 0) rfl
    have hsz : w.heap.size < Wr.heap.size := hs1.lt
    obtain ⟨v', w1, hrun, ho, hg, hv, _⟩ := run_append_own2 (P := Try.prog) (Wr.alloc (.cells #[.slice ua un uc] 22)) w.heap.size 24 24 22 i0 (.slice none 0 0) 1 24 Try.underlying24 Hi0.out Hz0.out Hz1.out Hz2.out rfl Nat.one_pos (.slice sa pre.length sc) pre.length pre (hs2.alloc _) ⟨Wr.heap.size, 0, none⟩ 1 1 [.slice ua un uc] rfl (fun j v hv => cell_add (Blk.new Wr 22 [.slice ua un uc]) hv) (by simp [Value.oneCell']) Nat.one_pos (by unfold maxLen; omega) (by omega) (by simp; omega)
    obtain ⟨a', c', hv'⟩ := own_form ho
    subst hv'
    have hgs := gather_step (Nat.le_refl _) hs1 hs2 ho hg hv
    have b1 : Blk w1 w.heap.size 24 [.slice sa pre.length sc] := hs1.keeps (((Keeps.refl (fun b => (Value.slice sa pre.length sc).ownBlock = some b) Wr).alloc _).grown hg (fun k hk _ => hk)) (fun h => blk_ne_own hs2 hs1 (by decide) h)
    have c1 : w1.cell? ⟨w.heap.size, 0, none⟩ = some (.slice sa pre.length sc) := cell_of_blk b1 (i := 0) rfl
    have z1 : w1.frozen? ⟨w.heap.size, 0, none⟩ = false := b1.frozen 0
    have HGS := Lib.hid hgs
    have HRun := Lib.hid hrun
    clear hs1 hs2 ho hg hv hgs b1 hkk hu hrun
    gi_wp2_with (gi_at_builtin; (refine wpLIn_appendRun rfl (.tmp 8) (.tmp 10) 24 rfl (.slice sa pre.length sc) (.slice (some ⟨Wr.heap.size, 0, none⟩) 1 1) (.slice a' (pre.length + 1) c') w1 rfl rfl HRun.out ?_))
    exact HGS.out
  case done =>
    intro D us X3 hD hE hO hJ3 hR3 hD3 hF3
    obtain ⟨s, hs1, hs2⟩ := hJ3
    have c0 : X3.cell? ⟨w.heap.size, 0, none⟩ = some s := cell_of_blk hs1 (i := 0) rfl
    obtain ⟨sa, sc, rfl⟩ := own_form hs2
    have HE := Lib.hid hE
    have HO := Lib.hid hO
    have HS2 := Lib.hid hs2
    have HR3 := Lib.hid hR3
    have HD3 := Lib.hid hD3
    have HS1 := Lib.hid hs1
    clear hE hO hs1 hs2 hR3 hD3 hF3
    gi_wp2
    refine leaves_marks [D] X3 (fun D' hD' => by simp only [List.mem_singleton] at hD'; subst hD'; exact HD3.out) (by simp) ?_
    have hput : ∀ b, IntRow X3 b → ¬ b = D := fun b ⟨cur, hb⟩ e => by
      subst e
      have h := HD3.out
      rw [h] at hb
      cases hb
    have hK : Keeps (fun b => b = D) X3 (shutAll [D] X3) := keeps_put _
    refine ⟨_, results_tmp rfl _ _ _, _, rfl, ⟨us, ?_, ?_⟩, ?_⟩
    · have e : us.length = ls.length := HE.out.1
      have h := ownsRow_keeps HS2.out hK (fun b hb e => by
        subst e
        obtain ⟨cur, hc⟩ := own_tag HS2.out hb
        have h := HD3.out
        rw [h] at hc
        cases hc)
      simp only [List.nil_append] at h
      rw [← e]
      exact h
    · exact (HE.out.keepsOwn hK hput).mono (Nat.le_of_lt s1) (by rw [shutAll_size]; exact Nat.le_refl _)
    · have hR := HR3.out
      have hsz := HB1.out.size
      refine (HB1.out.trans ⟨hR.os, hR.tape, hR.output, hR.size, fun k hk => ?_⟩).trans ((hK.toBelow (B := w.heap.size) (Nat.le_trans hsz hR.size) (fun k hk e => by omega)))
      refine (hR.block k (by omega) ?_).1
      rintro (e | ⟨s, h3, h4⟩)
      · omega
      · have e := HK1.out.symm.trans h3
        simp at e
        subst e
        simp [Value.ownBlock] at h4

set_option maxHeartbeats 400000 in
theorem collect_any (w : World) (lb : Array Value) (cap : Nat → Prop) (ls : List (List Int)) (hcap : ∀ b, cap b → b < w.heap.size) (hl : ls.length ≤ 1000) (h : SeqT Try.prog 34 lb cap ls w) :
    Calls Try.prog 27 #[.func (.func 34) #[] lb] w fun e w' => ∃ v, e = .returned v ∧ OwnT w' w.heap.size w.heap.size v ls ∧ Below w.heap.size w w' := by
  have H := Lib.hid (appendseq_any w lb cap ls hcap hl h)
  clear hcap h
  go_enter Try.func27, Try.ntmps27
  go_wp2_with (go_at_call 33; refine H.out.mono ?_; rintro e w1 ⟨v, rfl, h1, h2⟩; have H1 := Lib.hid h1; have H2 := Lib.hid h2; clear h1 h2)
  go_ret
  exact ⟨_, rfl, H1.out, H2.out⟩

def setsOf (zs : List Int) : List (List Int) := setsF 16 zs
theorem setsF_nil (f : Nat) : setsF f [] = [] := by cases f <;> simp [setsF]
theorem setsF_len : ∀ (f : Nat) (zs : List Int), (setsF f zs).length ≤ 2 * zs.length - 1
  | 0, _ => by simp [setsF]
  | f + 1, zs => by
    unfold setsF
    split
    · simp
    · rename_i h
      by_cases h2 : zs.length < 2
      · have e : kidsOf zs = ([], []) := if_pos h2
        rw [e, setsF_nil]
        simp
        omega
      · have e : kidsOf zs = (zs.take (leftOf zs.length), zs.drop (leftOf zs.length)) := if_neg h2
        have h1 := setsF_len f (kidsOf zs).1
        have h3 := setsF_len f (kidsOf zs).2
        rw [e] at h1 h3 ⊢
        have h4 := leftOf_lt (n := zs.length) (by omega)
        have h5 := leftOf_pos zs.length
        simp only [List.length_cons, List.length_append, List.length_take, List.length_drop] at h1 h3 ⊢
        omega

set_option maxHeartbeats 400000 in
theorem sets_any (w : World) (lo hi : Nat) (v : Value) (zs : List Int) (h : IntsT w lo hi v zs) (hz : zs.length ≤ 16) :
    Calls Try.prog 12 #[v] w fun e w' => ∃ v', e = .returned v' ∧ OwnT w' w.heap.size w.heap.size v' (setsOf zs) ∧ Below w.heap.size w w' := by
  obtain ⟨W1, hW1⟩ : ∃ W1, w.alloc (.cells #[v] 22) = W1 := ⟨_, rfl⟩
  have HB1 : Hid (Below w.heap.size w W1) := Lib.hid (by rw [← hW1]; exact (Below.refl w.heap.size w).alloc (Nat.le_refl _) _)
  have HK1 : Hid (Blk W1 w.heap.size 22 [v]) := Lib.hid (by rw [← hW1]; exact Blk.new w 22 [v])
  have HW1 := Lib.hid hW1
  have HS := Lib.hid h.isSlice
  have hs : W1.heap.size = w.heap.size + 1 := by rw [← hW1]; simp
  have HC : Hid (Calls Try.prog 27 #[.func (.func 34) #[] #[.pointer (some ⟨w.heap.size, 0, none⟩)]] W1 fun e w' => ∃ v, e = .returned v ∧ OwnT w' W1.heap.size W1.heap.size v (setsOf zs) ∧ Below W1.heap.size W1 w') := Lib.hid (by
    refine collect_any W1 _ (fun b => b = w.heap.size ∨ v.ownBlock = some b) (setsOf zs) (fun b hb => ?_) (by have := setsF_len 16 zs; unfold setsOf; omega) (all_seq 16 zs W1 w.heap.size v lo hi hz hz HK1.out (h.below HB1.out))
    rcases hb with rfl | hb
    · omega
    · have := (h.2 b hb).lt; omega)
  clear h hW1
  go_enter Try.func12, Try.ntmps12
  go_wp2_with (first | (go_at_call 28; refine (all_any w v HS.out).mono ?_; rintro e w1 ⟨rfl, hw⟩; obtain rfl : W1 = w1 := (hw.trans HW1.out).symm; clear hw) | (go_at_call 27; refine HC.out.mono ?_; rintro e w2 ⟨v2, rfl, h1, h2⟩; have H1 := Lib.hid h1; have H2 := Lib.hid h2; clear h1 h2))
  go_ret
  have hm : w.heap.size ≤ W1.heap.size := by omega
  obtain ⟨us, o1, o2⟩ := H1.out
  exact ⟨_, rfl, ⟨us, ownsRow_mono o1 hm, o2.mono hm (Nat.le_refl _)⟩, HB1.out.trans (H2.out.mono hm)⟩
end Go.Proofs.Ytappaadadkoamaa
