/- The path down a tree, and what is beside it: down, Path, Beside, by their contracts. -/
import Derived.Test.YtappaadadkoamaaTDown
namespace Go.Proofs.Ytappaadadkoamaa
open Go.RowKit
set_option linter.unusedVariables false

def downF : Nat → List Int → Int → List (List Int) × List (List Int)
  | 0, _, _ => ([], [])
  | f + 1, l, d =>
    if (kidsOf l).2.length = 0 then ([l], [])
    else if d ∈ (kidsOf l).1 then (l :: (downF f (kidsOf l).1 d).1, (kidsOf l).2 :: (downF f (kidsOf l).1 d).2)
    else (l :: (downF f (kidsOf l).2 d).1, (kidsOf l).1 :: (downF f (kidsOf l).2 d).2)
theorem kidsOf_append (zs : List Int) (h : (kidsOf zs).2.length ≠ 0) : (kidsOf zs).1 ++ (kidsOf zs).2 = zs := by
  unfold kidsOf at h ⊢
  split
  · rename_i h2
    rw [if_pos h2] at h
    simp at h
  · simp

/-- Two rows of the call's own, apart. -/
structure TwoU (w : World) (B : Nat) (a b : Value) (A Bs : List (List Int)) (us vs : List Value) : Prop where
  oa : w.ownsRow B 22 1 a A.length us
  ob : w.ownsRow B 22 1 b Bs.length vs
  ea : Each w B w.heap.size us A
  eb : Each w B w.heap.size vs Bs
  ap : ∀ k, a.ownBlock = some k → b.ownBlock ≠ some k
theorem TwoU.swap {w : World} {B : Nat} {a b : Value} {A Bs : List (List Int)} {us vs : List Value} (h : TwoU w B a b A Bs us vs) : TwoU w B b a Bs A vs us :=
  ⟨h.ob, h.oa, h.eb, h.ea, fun k h1 h2 => h.ap k h2 h1⟩
theorem TwoU.below {w w' : World} {B : Nat} {a b : Value} {A Bs : List (List Int)} {us vs : List Value} (h : TwoU w B a b A Bs us vs) (hb : Below w.heap.size w w') : TwoU w' B a b A Bs us vs := by
  have hK := Keeps.below hb
  exact ⟨ownsRow_keeps h.oa hK (fun b hb x => by have := (h.oa.lt b hb).2; omega), ownsRow_keeps h.ob hK (fun b hb x => by have := (h.ob.lt b hb).2; omega),
    (h.ea.keepsOwn hK (fun b hb x => by have := hb.lt; omega)).mono (Nat.le_refl _) hb.size, (h.eb.keepsOwn hK (fun b hb x => by have := hb.lt; omega)).mono (Nat.le_refl _) hb.size, h.ap⟩
theorem TwoU.start (w : World) (B : Nat) : TwoU w B (.slice none 0 0) (.slice none 0 0) [] [] [] [] :=
  ⟨World.ownsRow_nil w B _ _, World.ownsRow_nil w B _ _, Each.nil _ _ _, Each.nil _ _ _, fun k h => by simp [Value.ownBlock] at h⟩
theorem TwoU.push {w w' : World} {B : Nat} {a b v' u : Value} {A Bs : List (List Int)} {us vs : List Value} {l : List Int} {o : Obj} (h : TwoU w B a b A Bs us vs) (hu : IntsT w B w.heap.size u l)
    (hown : w'.ownsRow B 22 1 v' (A.length + 1) (us ++ [u])) (hg : (w.alloc o).grownBy w' a.ownBlock) (hv : v'.ownBlock = a.ownBlock ∨ v'.ownBlock = some (w.alloc o).heap.size) :
    TwoU w' B v' b (A ++ [l]) Bs (us ++ [u]) vs ∧ Keeps (fun k => a.ownBlock = some k) w w' := by
  have hK : Keeps (fun k => a.ownBlock = some k) w w' := ((Keeps.refl (fun k => a.ownBlock = some k) w).alloc _).grown hg (fun k hk _ => hk)
  refine ⟨⟨by rw [List.length_append]; exact hown, ownsRow_keeps h.ob hK (fun k hk hk' => h.ap k hk' hk), ?_, ?_, fun k hk hb => ?_⟩, hK⟩
  · exact ((h.ea.append (Each.single hu)).keepsOwn hK (fun k hk => intRow_ne_own h.oa hk)).mono (Nat.le_refl _) hK.size
  · exact (h.eb.keepsOwn hK (fun k hk => intRow_ne_own h.oa hk)).mono (Nat.le_refl _) hK.size
  · rcases hv with e | e
    · exact h.ap k (e ▸ hk) hb
    · rw [e] at hk
      simp at hk
      have := (h.ob.lt k hb).2
      omega

def lenOf : Value → Nat
  | .slice _ n _ => n
  | _ => 0
def DownRel (W0 : World) (B f0 : Nat) (zs : List Int) (d : Int) (s0 s4 s5 : Value) (wr : World) : Prop :=
  ∃ (f : Nat) (l : List Int) (A Bs : List (List Int)) (us vs : List Value), l.length ≤ f ∧ l.length ≤ 16 ∧ d ∈ l ∧ IntsT wr 0 wr.heap.size s0 l ∧ TwoU wr B s4 s5 A Bs us vs ∧ Below B W0 wr ∧ A.length ≤ 16 ∧ A.length + l.length ≤ 17 ∧ Bs.length ≤ A.length ∧
    A ++ (downF f l d).1 = (downF f0 zs d).1 ∧ Bs ++ (downF f l d).2 = (downF f0 zs d).2

set_option maxRecDepth 100000 in
set_option maxHeartbeats 2000000 in
theorem down_yes (w : World) (lo hi : Nat) (v : Value) (zs : List Int) (d : Int) (h : IntsT w lo hi v zs) (hhi : hi ≤ w.heap.size) (hz : zs.length ≤ 16) (hd : d ∈ zs) :
    Calls Try.prog 31 #[v, .int .i64 d] w fun e w' => ∃ a b us vs, e = .returned (.tuple #[a, b]) ∧ TwoU w' w.heap.size a b (downF 16 zs d).1 (downF 16 zs d).2 us vs ∧ Below w.heap.size w w' := by
  obtain ⟨i0, hi0, hz0, hz1, hz2⟩ := info_parts intsInfo3
  have HC := Lib.hid (contains_yes w lo hi v zs d h.1 hd)
  have H := Lib.hid h
  have HD := Lib.hid hd
  have Hz0 := Lib.hid hz0
  have Hz1 := Lib.hid hz1
  have Hz2 := Lib.hid hz2
  have Hi0 := Lib.hid hi0
  have HHI := Lib.hid hhi
  clear h hd hz0 hz1 hz2 hi0 hhi
  go_enter Try.func31, Try.ntmps31
  go_wp2_with (go_at_call 35; refine HC.out.mono ?_; rintro e w' ⟨rfl, rfl⟩)
  go_loopw [0, 4, 5] (DownRel w w.heap.size 16 zs d) (fun s0 _ _ _ => lenOf s0)
  case atStart => exact ⟨16, zs, [], [], [], [], hz, hz, HD.out, H.out.mono (Nat.zero_le _) HHI.out, TwoU.start _ _, Below.refl _ _, by simp, by simp; omega, by simp, rfl, rfl⟩
  case round =>
    obtain ⟨f, l, A, Bs, us, vs, hlf, hl16, hdl, hI, hT, hb, hA, hAl, hBA, e1, e2⟩ := hrel
    obtain ⟨la, lc, rfl, _, _⟩ := hI.form
    have hlpos : 0 < l.length := List.length_pos_of_mem hdl
    obtain ⟨f, rfl⟩ : ∃ f', f = f' + 1 := ⟨f - 1, by omega⟩
    obtain ⟨A4, c4, rfl⟩ := own_form hT.oa
    obtain ⟨A5, c5, rfl⟩ := own_form hT.ob
    have HI := Lib.hid hI
    have HT := Lib.hid hT
    have HB := Lib.hid hb
    have HE1 := Lib.hid e1
    have HE2 := Lib.hid e2
    have HDL := Lib.hid hdl
    have HC4 : Hid (A.length + 1 ≤ maxLen) := Lib.hid (by unfold maxLen; omega)
    have HC5 : Hid ((A.length + 1) * 24 ≤ 140737488355328) := Lib.hid (by omega)
    have HC6 : Hid (Bs.length + 1 ≤ maxLen) := Lib.hid (by unfold maxLen; omega)
    have HC7 : Hid ((Bs.length + 1) * 24 ≤ 140737488355328) := Lib.hid (by omega)
    clear hI hT hb e1 e2 hdl
    go_upto_region 4 with (first
      | (go_at_call 30; refine (clone_any wr 0 wr.heap.size (.slice la l.length lc) l HI.out (by omega)).mono ?_; rintro e w1 ⟨u1, rfl, hI1, hB1⟩; obtain ⟨ua, uc, rfl, _, _⟩ := hI1.form; have HI1 := Lib.hid hI1; have HB1 := Lib.hid hB1; have HT1 := Lib.hid (HT.out.below hB1); clear hI1 hB1)
      | (at_builtin; (refine wpL_append rfl (.tmp 12) (.tmp 15) 24 rfl w.heap.size 22 i0 (.slice none 0 0) 1 24 Try.underlying24 Hi0.out Hz0.out Hz1.out Hz2.out rfl Nat.one_pos (.slice A4 A.length c4) A.length us rfl (HT1.out.oa.alloc _) ⟨w1.heap.size, 0, none⟩ 1 1 [.slice ua l.length uc] rfl rfl (fun j x hx => cell_add (Blk.new w1 22 [.slice ua l.length uc]) hx) (Each.single HI1.out).one Nat.one_pos HC4.out HC5.out (Nat.le_trans (Nat.le_trans HB.out.size HB1.out.size) (Nat.le_of_lt (Blk.new w1 22 [.slice ua l.length uc]).lt)) ?_); intro v' w2 hown hg hv; have HO := Lib.hid hown; have HG := Lib.hid hg; have HV := Lib.hid hv; clear hown hg hv))
    obtain ⟨p1, p2⟩ := HT1.out.push (o := .cells #[.slice ua l.length uc] 22) (HI1.out.mono HB.out.size (Nat.le_refl _)) HO.out HG.out HV.out
    obtain ⟨b4, d4, rfl⟩ := own_form p1.oa
    rw [show (A ++ [l]).length = A.length + 1 from by simp] at p1
    have HT2 := Lib.hid p1
    have HI2 : Hid (IntsT w2 0 w2.heap.size (.slice la l.length lc) l) := Lib.hid (((HI.out.below HB1.out).keepsOwn p2 (fun b hb => intRow_ne_own HT1.out.oa ((HI.out.below HB1.out).2 b hb))).mono (Nat.le_refl _) (Nat.le_trans HB1.out.size p2.size))
    have HB2 : Hid (Below w.heap.size w w2) := Lib.hid ((HB.out.trans (HB1.out.mono HB.out.size)).trans (p2.toBelow (Nat.le_trans HB.out.size HB1.out.size) (fun k hk e => by have := (HT1.out.oa.lt k e).1; omega)))
    clear p1 p2 HT1 HT HI HB HB1 HI1 HO HG HV
    go_upto_region 6 with (first
      | (go_at_call 15; refine (kids_any w2 0 w2.heap.size (.slice la l.length lc) l HI2.out hl16).mono ?_; rintro e w3 ⟨one, two, rfl, hk1, hk2, hB⟩; obtain ⟨a1, q1, rfl, _, _⟩ := hk1.form; obtain ⟨a2, q2, rfl, _, _⟩ := hk2.form; have HK1 := Lib.hid hk1; have HK2 := Lib.hid hk2; have HT3 := Lib.hid (HT2.out.below hB); have HB3 : Hid (Below w.heap.size w w3) := Lib.hid (HB2.out.trans (hB.mono HB2.out.size)); have HW2 : Hid (w.heap.size ≤ w2.heap.size) := Lib.hid HB2.out.size; clear hk1 hk2 hB))
    obtain ⟨k1, hk1⟩ : ∃ k1, k1 = (kidsOf l).1 := ⟨_, rfl⟩
    obtain ⟨k2, hk2⟩ : ∃ k2, k2 = (kidsOf l).2 := ⟨_, rfl⟩
    obtain ⟨kl1, kl2⟩ := kidsOf_len l (by omega)
    have HDF : Hid (downF (f + 1) l d = if k2.length = 0 then ([l], []) else if d ∈ k1 then (l :: (downF f k1 d).1, k2 :: (downF f k1 d).2) else (l :: (downF f k2 d).1, k1 :: (downF f k2 d).2)) := Lib.hid (by rw [hk1, hk2, downF])
    have HAP : Hid (k2.length ≠ 0 → k1 ++ k2 = l) := Lib.hid (by rw [hk1, hk2]; exact kidsOf_append l)
    rw [← hk1] at HK1 kl1 ⊢
    rw [← hk2] at HK2 kl2 ⊢
    clear hk1 hk2
    by_cases hk0 : k2.length = 0
    · have h0 : ((k2.length : Int) == 0) = true := by simp [hk0]
      have HE3 : Hid (A ++ [l] = (downF 16 zs d).1 ∧ Bs = (downF 16 zs d).2) := Lib.hid (by
        have h1 := HE1.out
        have h2 := HE2.out
        rw [HDF.out, if_pos hk0] at h1 h2
        exact ⟨h1, by simpa using h2⟩)
      clear hk0
      go_wp2
      go_ret2
      exact ⟨_, _, us ++ [.slice ua l.length uc], vs, rfl, by rw [← HE3.out.1, ← HE3.out.2]; exact HT3.out, HB3.out⟩
    · have h0 : ((k2.length : Int) == 0) = false := by simpa using hk0
      have HL1 : Hid (Each w3 w.heap.size w3.heap.size [.slice a1 k1.length q1] [k1]) := Lib.hid (Each.single (HK1.out.mono HW2.out (Nat.le_refl _)))
      have HL2 : Hid (Each w3 w.heap.size w3.heap.size [.slice a2 k2.length q2] [k2]) := Lib.hid (Each.single (HK2.out.mono HW2.out (Nat.le_refl _)))
      by_cases hdk : d ∈ k1
      · have hkp := List.length_pos_of_mem hdk
        have HC1 := Lib.hid (contains_yes w3 w2.heap.size w3.heap.size (.slice a1 k1.length q1) k1 d HK1.out.1 hdk)
        have HDK := Lib.hid hdk
        have HK0 := Lib.hid hk0
        clear hdk hk0
        go_wp2_with (first | (go_at_call 35; refine HC1.out.mono ?_; rintro e w' ⟨rfl, rfl⟩) | (at_builtin; (refine wpL_append rfl (.tmp 38) (.tmp 40) 24 rfl w.heap.size 22 i0 (.slice none 0 0) 1 24 Try.underlying24 Hi0.out Hz0.out Hz1.out Hz2.out rfl Nat.one_pos (.slice A5 Bs.length c5) Bs.length vs rfl (HT3.out.ob.alloc _) ⟨w3.heap.size, 0, none⟩ 1 1 [.slice a2 k2.length q2] rfl rfl (fun j x hx => cell_add (Blk.new w3 22 [.slice a2 k2.length q2]) hx) (Each.single (HK2.out)).one Nat.one_pos HC6.out HC7.out (Nat.le_trans HB3.out.size (Nat.le_of_lt (Blk.new w3 22 [.slice a2 k2.length q2]).lt)) ?_); intro v5 w4 hown hg hv; have HO4 := Lib.hid hown; have HG4 := Lib.hid hg; have HV4 := Lib.hid hv; clear hown hg hv))
        obtain ⟨p1, p2⟩ := HT3.out.swap.push (o := .cells #[.slice a2 k2.length q2] 22) (HK2.out.mono HW2.out (Nat.le_refl _)) HO4.out HG4.out HV4.out
        refine ⟨⟨f, k1, A ++ [l], Bs ++ [k2], us ++ [.slice ua l.length uc], vs ++ [.slice a2 k2.length q2], by omega, by omega, HDK.out, ((HK1.out.mono (Nat.zero_le _) (Nat.le_refl _)).keepsOwn p2 (fun b hb => intRow_ne_own HT3.out.ob (HK1.out.2 b hb))).mono (Nat.le_refl _) p2.size, p1.swap, HB3.out.trans (p2.toBelow HB3.out.size (fun k hk e => by have := (HT3.out.ob.lt k e).1; omega)), by simp; omega, by simp; omega, by simp; omega, ?_, ?_⟩, by simp [lenOf]; omega⟩
        · rw [← HE1.out, HDF.out, if_neg HK0.out, if_pos HDK.out]; simp
        · rw [← HE2.out, HDF.out, if_neg HK0.out, if_pos HDK.out]; simp
      · have HC1 := Lib.hid (contains_no w3 w2.heap.size w3.heap.size (.slice a1 k1.length q1) k1 d HK1.out.1 hdk)
        have HDK := Lib.hid hdk
        have HD2 : Hid (d ∈ k2) := Lib.hid (by
          have h := HDL.out
          rw [← HAP.out hk0, List.mem_append] at h
          exact h.resolve_left hdk)
        have hkp := List.length_pos_of_mem HD2.out
        have HK0 := Lib.hid hk0
        clear hdk hk0
        go_wp2_with (first | (go_at_call 35; refine HC1.out.mono ?_; rintro e w' ⟨rfl, rfl⟩) | (at_builtin; (refine wpL_append rfl (.tmp 23) (.tmp 25) 24 rfl w.heap.size 22 i0 (.slice none 0 0) 1 24 Try.underlying24 Hi0.out Hz0.out Hz1.out Hz2.out rfl Nat.one_pos (.slice A5 Bs.length c5) Bs.length vs rfl (HT3.out.ob.alloc _) ⟨w3.heap.size, 0, none⟩ 1 1 [.slice a1 k1.length q1] rfl rfl (fun j x hx => cell_add (Blk.new w3 22 [.slice a1 k1.length q1]) hx) (Each.single (HK1.out)).one Nat.one_pos HC6.out HC7.out (Nat.le_trans HB3.out.size (Nat.le_of_lt (Blk.new w3 22 [.slice a1 k1.length q1]).lt)) ?_); intro v5 w4 hown hg hv; have HO4 := Lib.hid hown; have HG4 := Lib.hid hg; have HV4 := Lib.hid hv; clear hown hg hv))
        obtain ⟨p1, p2⟩ := HT3.out.swap.push (o := .cells #[.slice a1 k1.length q1] 22) (HK1.out.mono HW2.out (Nat.le_refl _)) HO4.out HG4.out HV4.out
        refine ⟨⟨f, k2, A ++ [l], Bs ++ [k1], us ++ [.slice ua l.length uc], vs ++ [.slice a1 k1.length q1], by omega, by omega, HD2.out, ((HK2.out.mono (Nat.zero_le _) (Nat.le_refl _)).keepsOwn p2 (fun b hb => intRow_ne_own HT3.out.ob (HK2.out.2 b hb))).mono (Nat.le_refl _) p2.size, p1.swap, HB3.out.trans (p2.toBelow HB3.out.size (fun k hk e => by have := (HT3.out.ob.lt k e).1; omega)), by simp; omega, by simp; omega, by simp; omega, ?_, ?_⟩, by simp [lenOf]; omega⟩
        · rw [← HE1.out, HDF.out, if_neg HK0.out, if_neg HDK.out]; simp
        · rw [← HE2.out, HDF.out, if_neg HK0.out, if_neg HDK.out]; simp

def downOf (zs : List Int) (d : Int) : List (List Int) × List (List Int) := if d ∈ zs then downF 16 zs d else ([], [])
def pathOf (zs : List Int) (d : Int) : List (List Int) := (downOf zs d).1.reverse
def besideOf (zs : List Int) (d : Int) : List (List Int) := (downOf zs d).2.reverse
theorem downF_len : ∀ (f : Nat) (l : List Int) (d : Int), (downF f l d).1.length ≤ f ∧ (downF f l d).2.length ≤ f
  | 0, _, _ => by simp [downF]
  | f + 1, l, d => by
    unfold downF
    have h1 := downF_len f (kidsOf l).1 d
    have h2 := downF_len f (kidsOf l).2 d
    split
    · simp
    · split <;> simp <;> omega
theorem downOf_len (zs : List Int) (d : Int) : (downOf zs d).1.length ≤ 16 ∧ (downOf zs d).2.length ≤ 16 := by
  unfold downOf
  split
  · exact downF_len 16 zs d
  · simp

set_option maxHeartbeats 400000 in
theorem down_no (w : World) (lo hi : Nat) (v : Value) (zs : List Int) (d : Int) (h : IntsT w lo hi v zs) (hd : d ∉ zs) :
    Calls Try.prog 31 #[v, .int .i64 d] w fun e w' => e = .returned (.tuple #[.slice none 0 0, .slice none 0 0]) ∧ w = w' := by
  have HC := Lib.hid (contains_no w lo hi v zs d h.1 hd)
  clear h hd
  go_enter Try.func31, Try.ntmps31
  go_wp2_with (go_at_call 35; refine HC.out.mono ?_; rintro e w' ⟨rfl, rfl⟩)
  go_ret2
  exact ⟨rfl, rfl⟩
theorem down_any (w : World) (lo hi : Nat) (v : Value) (zs : List Int) (d : Int) (h : IntsT w lo hi v zs) (hhi : hi ≤ w.heap.size) (hz : zs.length ≤ 16) :
    Calls Try.prog 31 #[v, .int .i64 d] w fun e w' => ∃ a b us vs, e = .returned (.tuple #[a, b]) ∧ TwoU w' w.heap.size a b (downOf zs d).1 (downOf zs d).2 us vs ∧ Below w.heap.size w w' := by
  by_cases hd : d ∈ zs
  · rw [downOf, if_pos hd]
    exact down_yes w lo hi v zs d h hhi hz hd
  · rw [downOf, if_neg hd]
    exact (down_no w lo hi v zs d h hd).mono fun e w' ⟨h1, h2⟩ => by subst h2; exact ⟨_, _, _, _, h1, TwoU.start _ _, Below.refl _ _⟩

set_option maxHeartbeats 400000 in
theorem path_any (w : World) (lo hi : Nat) (v : Value) (zs : List Int) (d : Int) (h : IntsT w lo hi v zs) (hhi : hi ≤ w.heap.size) (hz : zs.length ≤ 16) :
    Calls Try.prog 20 #[v, .int .i64 d] w fun e w' => ∃ v', e = .returned v' ∧ OwnT w' w.heap.size w.heap.size v' (pathOf zs d) ∧ Below w.heap.size w w' := by
  have HD := Lib.hid (down_any w lo hi v zs d h hhi hz)
  have HL : Hid ((downOf zs d).1.length ≤ 1000) := Lib.hid (by have := downOf_len zs d; omega)
  clear h hhi hz
  go_enter Try.func20, Try.ntmps20
  go_wp2_with (first
    | (go_at_call 31; refine HD.out.mono ?_; rintro e w1 ⟨a, b, us, vs, rfl, hT, hB⟩; obtain ⟨aa, ac, rfl⟩ := own_form hT.oa; obtain ⟨ba, bc, rfl⟩ := own_form hT.ob; have HT := Lib.hid hT; have HB := Lib.hid hB; have HR : Hid (RowsT w1 w.heap.size w1.heap.size (.slice aa (downOf zs d).1.length ac) (downOf zs d).1) := Lib.hid (OwnT.rows ⟨_, hT.oa, hT.ea⟩ (Nat.le_refl _)); clear hT hB)
    | (go_at_call 32; refine (turned_any w1 w.heap.size w1.heap.size _ (downOf zs d).1 HR.out (Nat.le_refl _) HL.out).mono ?_; rintro e w2 ⟨v2, rfl, h1, h2⟩; have H1 := Lib.hid h1; have H2 := Lib.hid h2; clear h1 h2))
  go_ret
  obtain ⟨xs, x1, x2⟩ := H1.out
  exact ⟨_, rfl, ⟨xs, ownsRow_mono x1 HB.out.size, x2⟩, HB.out.trans (H2.out.mono HB.out.size)⟩

set_option maxHeartbeats 400000 in
theorem beside_any (w : World) (lo hi : Nat) (v : Value) (zs : List Int) (d : Int) (h : IntsT w lo hi v zs) (hhi : hi ≤ w.heap.size) (hz : zs.length ≤ 16) :
    Calls Try.prog 22 #[v, .int .i64 d] w fun e w' => ∃ v', e = .returned v' ∧ OwnT w' w.heap.size w.heap.size v' (besideOf zs d) ∧ Below w.heap.size w w' := by
  have HD := Lib.hid (down_any w lo hi v zs d h hhi hz)
  have HL : Hid ((downOf zs d).2.length ≤ 1000) := Lib.hid (by have := downOf_len zs d; omega)
  clear h hhi hz
  go_enter Try.func22, Try.ntmps22
  go_wp2_with (first
    | (go_at_call 31; refine HD.out.mono ?_; rintro e w1 ⟨a, b, us, vs, rfl, hT, hB⟩; obtain ⟨aa, ac, rfl⟩ := own_form hT.oa; obtain ⟨ba, bc, rfl⟩ := own_form hT.ob; have HT := Lib.hid hT; have HB := Lib.hid hB; have HR : Hid (RowsT w1 w.heap.size w1.heap.size (.slice ba (downOf zs d).2.length bc) (downOf zs d).2) := Lib.hid (OwnT.rows ⟨_, hT.ob, hT.eb⟩ (Nat.le_refl _)); clear hT hB)
    | (go_at_call 32; refine (turned_any w1 w.heap.size w1.heap.size _ (downOf zs d).2 HR.out (Nat.le_refl _) HL.out).mono ?_; rintro e w2 ⟨v2, rfl, h1, h2⟩; have H1 := Lib.hid h1; have H2 := Lib.hid h2; clear h1 h2))
  go_ret
  obtain ⟨xs, x1, x2⟩ := H1.out
  exact ⟨_, rfl, ⟨xs, ownsRow_mono x1 HB.out.size, x2⟩, HB.out.trans (H2.out.mono HB.out.size)⟩
end Go.Proofs.Ytappaadadkoamaa
