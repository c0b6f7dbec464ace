/- slices.SortFunc in the machine of values, out of the library's contract: what a call of it leaves of a row, for a comparison that parts all that is not one. -/
import Derived.Test.YtpehhhbmobmedaaGreatDoorGQ
import Derived.Shelf.SlSortCmp.InsertionK
import Derived.Shelf.GgSortFunc.RowK
import Derived.Sort.Statements
import Derived.Shelf.SlSortCmp.NoneTotal
import Derived.Test.YtpehhhbmobmedaaGreatDoorLn
import Derived.Test.YtpehhhbmobmedaaGreatDoorHMr
import Derived.Test.YtpehhhbmobmedaaGreatDoorFN
namespace Go.Proofs.YtpehhhbmobmedaaGreatDoor
set_option linter.unusedVariables false
set_option linter.unusedSimpArgs false
set_option linter.unusedSectionVars false
section
open Go.RowKit Go.Sort

theorem keeps_grow {w w':World} (h:Keeps (fun _ => False) w w'):∃ q os,w' = grow (w.drewN q) os:=by
 refine ⟨w'.drawn - w.drawn,w'.heap.extract w.heap.size w'.heap.size,?_⟩
 have h1:=h.os; have h2:=h.tape; have h3:=h.output; have h4:=h.size; have h5:=h.drawn
 have h6:=fun k hk => h.block k hk (fun x => x)
 obtain ⟨hp,tp,dr,os,out⟩:=w
 obtain ⟨hp',tp',dr',os',out'⟩:=w'
 simp only [grow,World.drewN] at *
 subst h1; subst h2; subst h3
 have e1:dr + (dr' - dr) = dr':=by omega
 have e2:hp ++ hp'.extract hp.size hp'.size = hp':=by
  apply Array.ext_getElem?
  intro k
  by_cases hk:k < hp.size
  ·rw [Array.getElem?_append_left hk,h6 k hk]
  ·rw [Array.getElem?_append_right (by omega),Array.getElem?_extract]
   by_cases hk2:k < hp'.size
   ·rw [if_pos (by omega),show hp.size + (k - hp.size) = k by omega]
   ·rw [if_neg (by omega)]
    simp [show hp'.size ≤ k by omega]
 rw [e1,e2]

section
variable {P:Program} {α:Type} [Inhabited α]
def litsOf (enc:α → List Value) (d:List α):List G:=(d.flatMap enc).map .lit

theorem cmp_lays {g:FuncId} {enc:α → List Value} {k:Nat} {cf:α → α → Int} (h1:∀ x,∀ v ∈ enc x,v.oneCell' = true) (h:∀ x y,Fn' P [] g [.agg ((enc x).map .lit),.agg ((enc y).map .lit)] (.lit (.int .i64 (cf x y)))) (blk off size:Nat) (w:World):CmpLays P g #[] enc k cf blk off size w:=by
 intro m os dk hs x y
 have hagg:∀ (x:α) (W:World),IV (fun _ => False) W (.agg ((enc x).map .lit)) (.agg (enc x).toArray):=fun x W => by
  refine .agg _ _ (by simp) (fun i u hu => ?_) (fun i g u hg hu => ?_)
  ·rw [List.getElem?_toArray] at hu
   exact h1 x u (List.mem_of_getElem? hu)
  ·rw [List.getElem?_toArray] at hu
   rw [List.getElem?_map,hu] at hg
   cases hg
   exact .lit u
 refine (h x y _ (fun _ => False) #[.agg (enc x).toArray,.agg (enc y).toArray] (fun _ h => h.elim) (fun _ _ h => by cases h) rfl ?_).mono ?_
 ·intro i g u hg hu
  match i,hg,hu with
  | 0,hg,hu => cases hg; cases hu; exact hagg x _
  | 1,hg,hu => cases hg; cases hu; exact hagg y _
  | n + 2,hg,hu => simp at hg
 ·rintro e w' ⟨v,rfl,hv,hk⟩
  cases hv
  exact ⟨rfl,keeps_grow hk⟩

theorem flat_get {enc:α → List Value} {k:Nat} (hk:∀ x,(enc x).length = k):∀ (d:List α) (j:Nat),j < d.length * k → (d.flatMap enc)[j]? = some (flatK enc k d.toArray)[j]!:=by
 intro d
 have key:∀ (d:List α) (j:Nat),j < d.length * k → (d.flatMap enc)[j]? = some ((enc (d[j / k]!))[j % k]!):=by
  intro d
  induction d with
  | nil => intro j hj; simp at hj
  | cons x r ih =>
   intro j hj
   have hk0:0 < k:=by
    rcases Nat.eq_zero_or_pos k with h | h
    ·subst h; simp at hj
    ·exact h
   rw [List.flatMap_cons]
   by_cases hjk:j < k
   ·have hlx:=hk x
    rw [List.getElem?_append_left (by omega),Nat.div_eq_of_lt hjk,Nat.mod_eq_of_lt hjk]
    simp [show j < (enc x).length by omega]
   ·rw [List.getElem?_append_right (by rw [hk]; omega),hk]
    have e1:j / k = (j - k) / k + 1:=Nat.div_eq_sub_div hk0 (by omega)
    have e2:j % k = (j - k) % k:=(Nat.mod_eq_sub_mod (by omega))
    rw [ih (j - k) (by simp [Nat.add_mul] at hj; omega),e1,e2]
    simp
 intro j hj
 rw [key d j hj,get_flatK _ _ _ _ (by simpa using hj)]
 simp
theorem litsOf_len {enc:α → List Value} {k:Nat} (hk:∀ x,(enc x).length = k) (d:List α):(litsOf enc d).length = d.length * k:=by
 unfold litsOf
 rw [List.length_map]
 induction d with
 | nil => simp
 | cons x r ih => rw [List.flatMap_cons,List.length_append,ih,hk,List.length_cons,Nat.add_mul]; omega

structure SortsK (P:Program) (f:FuncId) (enc:α → List Value) (k:Nat) (cf:α → α → Int) (g:FuncId):Prop where
 nil:∀ (p:Option Addr) (cap:Nat) (fv:Value) (w:World),Calls P f #[.slice p 0 cap,fv] w fun e w' => e = .returned (.tuple #[]) ∧ w' = w
 row:∀ (blk off cap:Nat) (d:Array α) (w:World),CmpLays P g #[] enc k cf blk off d.size w → HoldsK enc k w blk off d → blk < w.heap.size → d.size < 4611686018427387904 →
  Calls P f #[.slice (some ⟨blk,off,none⟩) d.size cap,.func (.func g) #[] #[]] w fun e w' => e = .returned (.tuple #[]) ∧ ∃ n os,w' = sortWorldK enc k w blk off n (d.toList.mergeSort fun x y => !(ltOf cf) y x).toArray os

theorem sort_fnM {f g:FuncId} {enc:α → List Value} {k:Nat} {cf:α → α → Int} (hS:SortsK P f enc k cf g) (hk:∀ x,(enc x).length = k) (h1:∀ x,∀ v ∈ enc x,v.oneCell' = true) (hcmp:∀ x y,Fn' P [] g [.agg ((enc x).map .lit),.agg ((enc y).map .lit)] (.lit (.int .i64 (cf x y))))
  {t:TypeId} (ht:tsize P t = some k) (gl:List (Nat × List G)) (d:List α) (hd:d.length < 4611686018427387904) :
  FnM P gl f [.rsl 0 0 d.length,.clo (.func g) [] []] [(0,some ⟨t,litsOf enc d,Option.none⟩)] 1 1 (.tup []) [(0,some ⟨t,litsOf enc (d.mergeSort fun x y => !(ltOf cf) y x),Option.none⟩)]:=by
 intro w β S vs hSl hβ hG hR hsz hvs
 obtain ⟨v0,v1,rfl⟩:∃ v0 v1,vs = #[v0,v1]:=by
  obtain ⟨l⟩:=vs
  match l,hsz with
  | [a,b],_ => exact ⟨a,b,rfl⟩
 have r0:=hvs 0 _ v0 rfl rfl
 have r1:=hvs 1 _ v1 rfl rfl
 obtain ⟨fs,cs,rfl,hf0,hc0,_,_⟩:=r1.clo_form
 obtain rfl:fs = #[]:=Array.eq_empty_of_size_eq_zero hf0
 obtain rfl:cs = #[]:=Array.eq_empty_of_size_eq_zero hc0
 have hlen:(d.mergeSort fun x y => !(ltOf cf) y x).length = d.length:=List.length_mergeSort d
 have hone:∀ (b:List G) (i:Nat) (o:Ob),sget [(0,some ⟨t,b,Option.none⟩)] i = some o → i = 0 ∧ o = ⟨t,b,Option.none⟩:=by
  intro b i o ho
  rw [sget_cons] at ho
  split at ho
  ·cases ho; exact ⟨by omega,rfl⟩
  ·cases ho
 rcases r0.rsl_form with ⟨hb,rfl,hn⟩ | ⟨b,C,o',cap,hb,rfl,hn,hm,ho',hC⟩
 ·have hd0:d = []:=List.eq_nil_of_length_eq_zero hn
  subst hd0
  refine (hS.nil Option.none 0 _ w).mono ?_
  rintro e w' ⟨rfl,rfl⟩
  refine ⟨_,β,rfl,?_⟩
  simp only [List.mergeSort_nil]
  exact ⟨fun _ _ => rfl,hR,fun b hb => .inl hb,.tup _ _ rfl (fun i g u hg => by simp at hg),Keeps.refl _ _⟩
 ·obtain ⟨rfl,rfl⟩:=hC rfl
  have hob:=hR.ob 0 _ rfl
  rcases hob with ⟨h2,_⟩ | ⟨b',x',o2,h2,_⟩ | ⟨b',C',cur,_,h2,h3,h4,h5,h6,h7⟩
  ·rw [hb] at h2; cases h2
  ·cases h2
  ·rw [hb] at h2; cases h2
   dsimp only at h3 h4 h6 h7
   rw [tsz_of ht] at h4
   rw [litsOf_len hk] at h6
   have hcur:∀ j,j < d.length * k → cur[j]? = some (flatK enc k d.toArray)[j]!:=by
    intro j hj
    have hfl:=flat_get hk d j hj
    obtain ⟨u,hu,_,hru⟩:=h7 j (.lit (flatK enc k d.toArray)[j]!) (by unfold litsOf; rw [List.getElem?_map,hfl]; rfl)
    rw [hu,hru.lit_eq]
   have hH:HoldsK enc k w b 0 d.toArray:=by
    intro j hj
    rw [size_flatK] at hj
    refine ⟨?_,?_⟩
    ·rw [cell_of_row w b _ _ _ _ h3,Nat.zero_add,hcur j (by simpa using hj)]
     rfl
    ·exact frozen_of_row w b _ _ _ h3
   have hlt:b < w.heap.size:=(Array.getElem?_eq_some_iff.1 h3).1
   have hcall:=hS.row b 0 cap d.toArray w (cmp_lays h1 hcmp b 0 _ w) hH hlt (by simpa using hd)
   rw [List.size_toArray] at hcall
   refine hcall.mono ?_
   rintro e w' ⟨rfl,n',os,rfl⟩
   refine ⟨_,β,rfl,?_⟩
   try simp only [List.toList_toArray] at *
   generalize hD:(d.mergeSort fun x y => !(ltOf cf) y x) = D at *
   have hfin:(sortWorldK enc k w b 0 n' D.toArray os).heap[b]? = some (.cells (putCells id 0 (flatK enc k D.toArray) cur) t (0,0)):=by
    unfold sortWorldK putRowK
    rw [heap_grow_old _ _ (by simpa [putRow,mapBlock,ahead] using hlt)]
    simp only [putRow,mapBlock]
    rw [Array.getElem?_modify,if_pos rfl,show (Sort.ahead w n').heap[b]? = w.heap[b]? from rfl,h3]
    rfl
   have hkeep:Keeps (Liv β [(0,some ⟨t,litsOf enc d,Option.none⟩)]) w (sortWorldK enc k w b 0 n' D.toArray os):=by
    refine ⟨rfl,rfl,rfl,?_,fun j hj hn => ?_,?_⟩
    ·simp [sortWorldK,putRowK,putRow,mapBlock,ahead]
    ·have hjb:j ≠ b:=fun e => hn ⟨0,_,cap,rfl,by rw [e]; exact hb⟩
     unfold sortWorldK putRowK
     rw [heap_grow_old _ _ (by simpa [putRow,mapBlock,ahead] using hj)]
     simp [putRow,mapBlock,ahead,Array.getElem?_modify,Ne.symm hjb]
    ·simp [sortWorldK,putRowK,putRow,mapBlock,ahead,grow]
   have hsize:(putCells id 0 (flatK enc k D.toArray) cur).size = cur.size:=by simp [putCells]
   refine ⟨fun _ _ => rfl,⟨fun i o ho => ?_,fun i j o o2 b2 C2 D2 hi hj _ _ => ?_,fun i o b2 C2 hi hb2 => ?_⟩,fun b2 hb2 => ?_,.tup _ _ rfl (fun i g u hg => by simp at hg),hkeep⟩
   ·obtain ⟨rfl,rfl⟩:=hone _ i o ho
    refine .inr (.inr ⟨b,cap,_,rfl,hb,hfin,by rw [hsize,tsz_of ht]; exact h4,h5,by rw [hsize]; show (litsOf enc D).length ≤ _; rw [litsOf_len hk,hlen]; exact h6,fun j g hg => ?_⟩)
    have hg':(litsOf enc D)[j]? = some g:=hg
    have hj:j < D.length * k:=by
     have:=(List.getElem?_eq_some_iff.1 hg').1
     rwa [litsOf_len hk] at this
    have hfl:=flat_get hk D j hj
    unfold litsOf at hg'
    rw [List.getElem?_map,hfl] at hg'
    cases hg'
    have hj2:j < cur.size:=by rw [hlen] at hj; omega
    refine ⟨_,?_,h1 D.toArray[j / k]! _ ?_,.imm _ _ (.lit _)⟩
    ·unfold putCells
     rw [Array.getElem?_mapIdx,Array.getElem?_eq_getElem hj2]
     simp [hj]
    ·rw [get_flatK _ _ _ _ (by simpa using hj)]
     have hk0:0 < k:=by
      rcases Nat.eq_zero_or_pos k with h | h
      ·subst h; simp at hj
      ·exact h
     have hm:j % k < (enc D.toArray[j / k]!).length:=by rw [hk]; exact Nat.mod_lt _ hk0
     rw [List.getElem!_eq_getElem?_getD,List.getElem?_eq_getElem hm]
     exact List.getElem_mem hm
   ·exact (hone _ i o hi).1.trans (hone _ j o2 hj).1.symm
   ·obtain ⟨rfl,_⟩:=hone _ i o hi
    exact hR.sep 0 _ b2 C2 rfl hb2
   ·obtain ⟨i,o,C2,hi,hb2⟩:=hb2
    obtain ⟨rfl,_⟩:=hone _ i o hi
    exact .inl ⟨0,_,C2,rfl,hb2⟩
end
end
section
section
variable {α:Type} [DecidableEq α]
inductive DerA (l:List (List α × α)) (ks:List α):α → Prop
 | base {x:α} (h:x ∈ ks):DerA l ks x
 | step {e:List α × α} (he:e ∈ l) (h:∀ y ∈ e.1,DerA l ks y):DerA l ks e.2
theorem DerA.mono {l l':List (List α × α)} {ks ks':List α} (hl:∀ e ∈ l,e ∈ l') (hk:∀ x ∈ ks,DerA l' ks' x) {x:α} (h:DerA l ks x):DerA l' ks' x:=by
 induction h with
 | base h => exact hk _ h
 | step he _ ih => exact .step (hl _ he) ih
/-! ### sorted -/
variable (lt:α → α → Bool)
structure TotA:Prop where
 irrefl:∀ x,lt x x = false
 trans:∀ x y z,lt x y = true → lt y z = true → lt x z = true
 tot:∀ x y,lt x y = false → lt y x = false → x = y
variable {lt}
theorem TotA.asym (h:TotA lt) {x y:α} (h1:lt x y = true):lt y x = false:=by
 cases h2:lt y x with
 | false => rfl
 | true => have:=h.trans _ _ _ h1 h2; rw [h.irrefl] at this; cases this
theorem sorted_eq (h:TotA lt) {a b:List α} (ha:a.Pairwise (fun a b => lt b a = false)) (hb:b.Pairwise (fun a b => lt b a = false)) (hp:a.Perm b):a = b :=
 List.Perm.eq_of_pairwise (fun x y _ _ h1 h2 => h.tot _ _ h2 h1) ha hb hp
end
end
section
open Go.RowKit Go.Shelf Go.Sort
def sortNm_ren:Go.Shelf.Ren:=⟨fun | 6 => 123 | 15 => 175 | 14 => 174 | 28 => 226 | 29 => 227 | 20 => 218 | 21 => 219 | 22 => 220 | 23 => 221 | 24 => 222 | 25 => 223 | 26 => 224 | 27 => 225 | 46 => 292 | 47 => 293 | 48 => 294 | 49 => 295 | 50 => 296 | 57 => 343 | n => n,fun | 22 => 106 | 24 => 92 | 25 => 97 | 3 => 3 | 39 => 156 | 0 => 0 | 53 => 295 | 55 => 23 | 4 => 4 | 46 => 289 | 45 => 288 | 50 => 211 | 5 => 5 | 9 => 9 | 66 => 350 | 70 => 353 | 76 => 388 | 77 => 389 | n => n,fun | n => n⟩
theorem sortNm:Go.Proofs.SlLaysF0.n6 Tryz.prog sortNm_ren:={
 mixed:=by kernel_rfl
 f6:=⟨Tryz.f123.name,by decide,Tryz.func123.trans (congrArg some (by kernel_rfl))⟩
 f14:=⟨Tryz.f174.name,by decide,Tryz.func174.trans (congrArg some (by kernel_rfl))⟩
 f15:=Tryz.func175.trans (congrArg some (by kernel_rfl))
 f20:=⟨Tryz.f218.name,by decide,Tryz.func218.trans (congrArg some (by kernel_rfl))⟩
 f21:=⟨Tryz.f219.name,by decide,Tryz.func219.trans (congrArg some (by kernel_rfl))⟩
 f22:=⟨Tryz.f220.name,by decide,Tryz.func220.trans (congrArg some (by kernel_rfl))⟩
 f23:=⟨Tryz.f221.name,by decide,Tryz.func221.trans (congrArg some (by kernel_rfl))⟩
 f24:=⟨Tryz.f222.name,by decide,Tryz.func222.trans (congrArg some (by kernel_rfl))⟩
 f25:=⟨Tryz.f223.name,by decide,Tryz.func223.trans (congrArg some (by kernel_rfl))⟩
 f26:=⟨Tryz.f224.name,by decide,Tryz.func224.trans (congrArg some (by kernel_rfl))⟩
 f27:=⟨Tryz.f225.name,by decide,Tryz.func225.trans (congrArg some (by kernel_rfl))⟩
 f28:=Tryz.func226.trans (congrArg some (by kernel_rfl))
 f29:=Tryz.func227.trans (congrArg some (by kernel_rfl))
 f46:=⟨Tryz.f292.name,by decide,Tryz.func292.trans (congrArg some (by kernel_rfl))⟩
 f47:=Tryz.func293.trans (congrArg some (by kernel_rfl))
 f48:=Tryz.func294.trans (congrArg some (by kernel_rfl))
 f49:=⟨Tryz.f295.name,by decide,Tryz.func295.trans (congrArg some (by kernel_rfl))⟩
 f50:=⟨Tryz.f296.name,by decide,Tryz.func296.trans (congrArg some (by kernel_rfl))⟩
 f57:=⟨Tryz.f343.name,by decide,Tryz.func343.trans (congrArg some (by kernel_rfl))⟩
 t0:=Tryz.underlying0
 a0:=Tryz.isAgg0
 z0:=Tryz.sizeOf0
 v0:=Tryz.zeroValue0
 t3:=Tryz.underlying3
 a3:=Tryz.isAgg3
 z3:=Tryz.sizeOf3
 v3:=Tryz.zeroValue3
 t4:=Tryz.underlying4
 a4:=Tryz.isAgg4
 z4:=Tryz.sizeOf4
 v4:=Tryz.zeroValue4
 t5:=Tryz.underlying5
 a5:=Tryz.isAgg5
 z5:=Tryz.sizeOf5
 v5:=Tryz.zeroValue5
 t9:=Tryz.underlying9
 a9:=Tryz.isAgg9
 z9:=Tryz.sizeOf9
 v9:=Tryz.zeroValue9
 t22:=Tryz.underlying106
 a22:=Tryz.isAgg106
 z22:=Tryz.sizeOf106
 v22:=Tryz.zeroValue106
 t25:=Tryz.underlying97
 a25:=Tryz.isAgg97
 z25:=Tryz.sizeOf97
 v25:=Tryz.zeroValue97
 t39:=Tryz.underlying156
 a39:=Tryz.isAgg156
 z39:=Tryz.sizeOf156
 v39:=Tryz.zeroValue156
 t45:=Tryz.underlying288
 a45:=Tryz.isAgg288
 z45:=Tryz.sizeOf288
 v45:=Tryz.zeroValue288
 t46:=Tryz.underlying289
 a46:=Tryz.isAgg289
 z46:=Tryz.sizeOf289
 v46:=Tryz.zeroValue289
 t50:=Tryz.underlying211
 a50:=Tryz.isAgg211
 z50:=Tryz.sizeOf211
 v50:=Tryz.zeroValue211
 t53:=Tryz.underlying295
 a53:=Tryz.isAgg295
 z53:=Tryz.sizeOf295
 v53:=Tryz.zeroValue295
 t55:=Tryz.underlying23
 a55:=Tryz.isAgg23
 z55:=Tryz.sizeOf23
 v55:=Tryz.zeroValue23
 t66:=Tryz.underlying350
 a66:=Tryz.isAgg350
 z66:=Tryz.sizeOf350
 v66:=Tryz.zeroValue350
 t70:=Tryz.underlying353
 a70:=Tryz.isAgg353
 z70:=Tryz.sizeOf353
 v70:=Tryz.zeroValue353
 t76:=Tryz.underlying388
 a76:=Tryz.isAgg388
 z76:=Tryz.sizeOf388
 v76:=Tryz.zeroValue388
 t77:=Tryz.underlying389
 a77:=Tryz.isAgg389
 z77:=Tryz.sizeOf389
 v77:=Tryz.zeroValue389 }

def ltN (m q:Nm):Prop:=ltId m.i q.i ∨ (m.i = q.i ∧ m.n < q.n)
instance (m q:Nm):Decidable (ltN m q):=by unfold ltN; exact inferInstance
theorem ltId_irr (i:Idn):¬ ltId i i:=by unfold ltId; omega
theorem ltId_tr {i j k:Idn} (h:ltId i j) (h':ltId j k):ltId i k:=by unfold ltId at *; omega
theorem ltId_tot {i j:Idn} (h:¬ ltId i j) (h':¬ ltId j i):i = j:=by
 obtain ⟨a,b,c⟩:=i
 obtain ⟨x,y,z⟩:=j
 unfold ltId at *
 simp only [Idn.mk.injEq] at *
 omega
def ltNB (m q:Nm):Bool:=decide (ltN m q)
theorem totNB:TotA ltNB where
 irrefl x:=decide_eq_false (fun h => by
  rcases h with h | h
  ·exact ltId_irr _ h
  ·omega)
 trans x y z h k:=decide_eq_true (by
  have h:=of_decide_eq_true h
  have k:=of_decide_eq_true k
  rcases h with h | h <;> rcases k with k | k
  ·exact .inl (ltId_tr h k)
  ·exact .inl (k.1 ▸ h)
  ·exact .inl (h.1 ▸ k)
  ·exact .inr ⟨h.1.trans k.1,by omega⟩)
 tot x y h k:=by
  have h:=of_decide_eq_false h
  have k:=of_decide_eq_false k
  obtain ⟨i,n⟩:=x
  obtain ⟨j,m⟩:=y
  have e:i = j:=ltId_tot (fun e => h (.inl e)) (fun e => k (.inl e))
  subst e
  have:n = m:=by
   rcases Int.lt_trichotomy n m with h1 | h1 | h1
   ·exact absurd (.inr ⟨rfl,h1⟩) h
   ·exact h1
   ·exact absurd (.inr ⟨rfl,h1⟩) k
  rw [this]
def SmallN (m:Nm):Prop:=0 ≤ m.n ∧ m.n ≤ 63
theorem cmpN_lt {m q:Nm} (hm:SmallN m) (hq:SmallN q):cmpN m q < 0 ↔ ltN m q:=by
 unfold SmallN at hm hq
 unfold cmpN ltN
 have hw:IntKind.i64.wrap (m.n - q.n) = m.n - q.n:=w64 (by omega)
 rw [hw]
 constructor
 ·intro h
  split at h
  ·exact .inl (by assumption)
  ·split at h
   ·omega
   ·exact .inr ⟨ltId_tot (by assumption) (by assumption),by omega⟩
 ·rintro (h | ⟨h,h'⟩)
  ·rw [if_pos h]; decide
  ·rw [h,if_neg (ltId_irr _),if_neg (ltId_irr _)]; omega
structure BN where
 val:Nm
 ok:SmallN val
instance:Inhabited BN:=⟨⟨.zero,by unfold SmallN; decide⟩⟩
theorem BN.ext' {x y:BN} (h:x.val = y.val):x = y:=by
 cases x; cases y; cases h; rfl
def encB (m:BN):List Value:=eN m.1
def cfB (m q:BN):Int:=cmpN m.1 q.1
theorem cfB_lt (m q:BN):ltOf cfB m q = ltNB m.1 q.1:=decide_eq_decide.2 (cmpN_lt m.2 q.2)
theorem swoN:Go.Sort.SWO (ltOf cfB):=by
 have e:ltOf cfB = fun m q => ltNB m.1 q.1:=by funext m q; exact cfB_lt m q
 rw [e]
 refine ⟨fun x => totNB.irrefl x.1,fun x y z => totNB.trans x.1 y.1 z.1,fun x y z h k => ?_⟩
 cases h1:ltNB x.1 z.1 with
 | false => rfl
 | true =>
  cases h2:ltNB y.1 x.1 with
  | true => have:=totNB.trans _ _ _ h2 h1; rw [k] at this; cases this
  | false => have:=totNB.tot _ _ h h2; rw [this,k] at h1; cases h1
theorem sortsN:SortsK Tryz.prog 123 encB 4 cfB 37:={
 nil:=fun p cap fv w => AnyF.slices_SortFunc_none sortNm p cap fv w
 row:=fun blk off cap d w hc hH hb hs => AnyQ.slices_SortFunc_total sortNm 4 (fun w => Tryz.isAgg92 w) (fun w => Tryz.sizeOf92 w) encB (fun _ => rfl) (fun x v hv => by
  simp only [encB,eN,List.mem_cons,List.not_mem_nil,or_false] at hv
  rcases hv with rfl | rfl | rfl | rfl <;> rfl) cfB swoN 37 #[] blk off cap d w (fun args w => run_callFunc (by kernel_rfl) args w) hc hH hb hs (fun x y h k => BN.ext' (totNB.tot _ _ (by rw [← cfB_lt]; exact h) (by rw [← cfB_lt]; exact k))) }
abbrev rowN (l:List Nm):Ob:=⟨92,l.flatMap cN,none⟩
theorem lits_B (d:List BN):litsOf encB d = (d.map (·.1)).flatMap cN:=by
 unfold litsOf
 induction d with
 | nil => rfl
 | cons x r ih =>
  rw [List.flatMap_cons,List.map_append,ih,List.map_cons,List.flatMap_cons]
  rfl
theorem lift_B:∀ {l:List Nm},(∀ m ∈ l,SmallN m) → ∃ d:List BN,d.map (·.1) = l
 | [],_ => ⟨[],rfl⟩
 | m :: r,h => by
  obtain ⟨d,hd⟩:=lift_B (l:=r) fun x hx => h x (List.mem_cons_of_mem _ hx)
  exact ⟨⟨m,h m List.mem_cons_self⟩ :: d,by rw [List.map_cons,hd]⟩
theorem sort_fnN (gl:List (Nat × List G)) (ks srt:List Nm) (hp:ks.Perm srt) (hs:srt.Pairwise fun a b => ltN a b) (hb:∀ m ∈ srt,SmallN m) (hl:srt.length < 100000) :
  FnM Tryz.prog gl 123 [.rsl 0 0 ks.length,.clo (.func 37) [] []] [(0,some (rowN ks))] 1 1 (.tup []) [(0,some (rowN srt))]:=by
 obtain ⟨d,hd⟩:=lift_B fun m hm => hb m (hp.mem_iff.1 hm)
 have hlen:d.length = ks.length:=by rw [← hd]; simp
 have h:=sort_fnM (t:=92) sortsN (fun _ => rfl) (fun x v hv => by
  simp only [encB,eN,List.mem_cons,List.not_mem_nil,or_false] at hv
  rcases hv with rfl | rfl | rfl | rfl <;> rfl) (fun x y => less_fn [] x.1 y.1) (by kernel_rfl) gl d (by rw [hlen,hp.length_eq]; omega)
 rw [lits_B,lits_B,hd,hlen] at h
 have e:((d.mergeSort fun x y => !(ltOf cfB) y x).map (·.1)) = srt:=by
  have hpm:((d.mergeSort fun x y => !(ltOf cfB) y x).map (·.1)).Perm srt:=((List.mergeSort_perm d _).map _).trans (by rw [hd]; exact hp)
  refine sorted_eq totNB ?_ (hs.imp fun {a b} hab => totNB.asym (decide_eq_true hab)) hpm
  have:=List.pairwise_mergeSort (le:=fun x y => !(ltOf cfB) y x) (fun a b c h1 h2 => by
   simp only [Bool.not_eq_true'] at h1 h2 ⊢
   rw [cfB_lt] at h1 h2 ⊢
   cases h3:ltNB c.1 a.1 with
   | false => rfl
   | true =>
    cases h4:ltNB a.1 b.1 with
    | true => have:=totNB.trans _ _ _ h3 h4; rw [h2] at this; cases this
    | false => have:=totNB.tot _ _ h1 h4; rw [this] at h2; rw [h2] at h3; cases h3) (fun a b => by
   cases h1:(ltOf cfB) b a with
   | false => rfl
   | true =>
    have:(ltOf cfB) a b = false:=by
     rw [cfB_lt] at h1 ⊢
     exact totNB.asym h1
    rw [this]; rfl) d
  rw [List.pairwise_map]
  refine this.imp fun {a b} hab => ?_
  simp only [Bool.not_eq_true'] at hab
  rw [← cfB_lt]; exact hab
 rw [e] at h
 exact h
end
section
open Go.RowKit
abbrev cellsN (l:List Nm):List G:=l.flatMap cN
theorem len_cellsN (l:List Nm):(cellsN l).length = l.length * 4:=rw_len len_cN l
theorem cellsN_imm (l:List Nm):∀ g ∈ cellsN l,ImmG g:=fun g hg => by
 obtain ⟨x,_,hx⟩:=List.mem_flatMap.1 hg
 exact cN_imm x g hx
theorem gNm_c (m:Nm):gNm m = .agg (cN m):=rfl
theorem glit_N (m:Nm):glit (vN m) = gNm m:=rfl
theorem wkx_sameN {P:Program} {st:St} {ρ:List (Nat × Nat)} (kp:List (Nm × Nat)) (n:Nat):WkX P st ρ (.map (entsN kp) n) (.map (entsN kp) n):=wkx_map rfl fun j k k' g g' n n' h1 h2 => by
 rw [h1] at h2
 cases h2
 obtain ⟨_,m,pv,_,_,rfl⟩:=entsN_mem (List.mem_of_getElem? h1)
 exact ⟨rfl,rfl,wk_imm (imm_lit _)⟩
attribute [local irreducible] gNm
attribute [local irreducible] Tr Run RunD GS TG Le Wk Frz Fn' ImmG Flat WkFr WkSt EndM GSn
section
variable {P:Program} {ops:Array Oper} {K:St → Prop} {rest:List Oper}
theorem tr_as {c c':Code} {st:St} {Q:Exit → St → Prop} (h:c' = c) (t:Tr P c' st Q):Tr P c st Q:=h ▸ t
theorem rn_e {o:Oper} {st st1:St} (hg:o.guard = none) (hs:GS P o st st1) (h:RunN P ops K rest st1):RunN P ops K (o :: rest) st:=.inl ⟨by simp [gwant,hg],hs.gsn.eqv fun s hs' => ⟨s,by rw [hs']; exact h,Eqv.refl _⟩⟩
theorem rn_v {o:Oper} {st:St} {d:Tmp} {g:G} (hg:o.guard = none) (ho:o.dst = some d) (hd:d < st.n) (he:evVal P (gev st) st.σ o = some g) (h:RunN P ops K rest (st.put (some d) g)):RunN P ops K (o :: rest) st:=rn_e hg (gs_val (fun x e => by rw [ho] at e; cases e; exact hd) he) (by rw [ho]; exact h)
theorem rn_n {o:Oper} {st:St} {S:St → Prop} (hg:o.guard = none) (hs:GSn P o st S) (h:∀ s,S s → RunN P ops K rest s):RunN P ops K (o :: rest) st:=.inl ⟨by simp [gwant,hg],hs.eqv fun s hs' => ⟨s,h s hs',Eqv.refl _⟩⟩
end
section
variable {P:Program} {st:St} {ρ:List (Nat × Nat)}
theorem wkl_nil {fr:Fr}:∀ d,Wk P st ρ (fget fr d) (fget [] d):=fun d => wk_junk
theorem wkl_cons {fr fr':Fr} {d0:Nat} {g:G} (h:Wk P st ρ (fget fr d0) g) (hr:∀ d,Wk P st ρ (fget fr d) (fget fr' d)):∀ d,Wk P st ρ (fget fr d) (fget ((d0,g) :: fr') d):=fun d => by
 rw [fget_cons]
 split
 ·rename_i e; subst e; exact h
 ·exact hr d
theorem wk_one {g g':G} (h:Wk P st ρ g g'):∀ (k:Nat) (a a':G),[g][k]? = some a → [g'][k]? = some a' → Wk P st ρ a a':=fun k a a' h1 h2 => by
 cases k with
 | zero => simp at h1 h2; subst h1; subst h2; exact h
 | succ k => simp at h1
end
def keysN (kp:List (Nm × Nat)) (seen:List Nat):List Nm:=seen.map fun n => (kp.getD n default).1
theorem keysN_perm {kp:List (Nm × Nat)} {seen:List Nat} (hn:seen.Nodup) (hl:∀ n ∈ seen,n < kp.length) (ha:∀ n,n < kp.length → n ∈ seen):(keysN kp seen).Perm (kp.map (·.1)):=by
 have h1:seen.Perm (List.range kp.length):=(List.perm_ext_iff_of_nodup hn List.nodup_range).2 fun n => by
  rw [List.mem_range]
  exact ⟨hl n,ha n⟩
 have h2:=h1.map fun n => (kp.getD n default).1
 refine h2.trans (List.Perm.of_eq ?_)
 apply List.ext_getElem?
 intro i
 by_cases h:i < kp.length
 ·simp [h]
 ·simp [h]
theorem bsN (m:Nm):gbs Tryz.prog 106 1 [(0,gNm m)] = some (92,cellsN [m]):=by rw [gNm_c]; kernel_rfl
theorem srcNm {σ:Sto} {c q:Nat} {l:List Nm} (h:sget σ q = some ⟨92,cellsN l,none⟩):gsrc σ c 92 4 (.rsl q 0 l.length) = some (q,l.length,cellsN l):=by
 simp only [gsrc,h,Option.bind_some]
 rw [if_pos ⟨trivial,len_cellsN l,rfl⟩]
theorem viewNm {σ:Sto} {q:Nat} {l:List Nm} (h:sget σ q = some ⟨92,cellsN l,none⟩):gview σ 4 (.rsl q 0 l.length) = some (cellsN l,l.length):=by
 simp only [gview,h,Option.bind_some]
 rw [if_pos (by rw [len_cellsN]; omega),List.drop_zero,List.take_of_length_le (by rw [len_cellsN]; exact Nat.le_refl _)]
theorem appGN {σ:Sto} {c i:Nat} {gx gy:G} {l n:List Nm} (hl:l.length + n.length ≤ 100000000) (h1:gsrc σ c 92 4 gx = some (i,l.length,cellsN l)) (h2:gview σ 4 gy = some (cellsN n,n.length)):gapp Tryz.prog σ c 106 gx gy = some (92,i,l.length + n.length,cellsN (l ++ n)):=by
 unfold gapp
 rw [show telem Tryz.prog 106 = some 92 by kernel_rfl,Option.bind_some,show tsize Tryz.prog 92 = some 4 by kernel_rfl,Option.bind_some,show tzero Tryz.prog 92 = some [.int .i64 0,.int .i64 0,.int .u64 0,.int .i64 0] by kernel_rfl,Option.bind_some,show (Tryz.prog.info? 92).map (·.bytes) = some 32 by kernel_rfl,Option.bind_some,h1,Option.bind_some]
 dsimp only
 rw [h2,Option.bind_some]
 dsimp only
 rw [if_pos ⟨by decide,rfl,by omega,by omega⟩]
 simp [cellsN]
theorem appNm {σ:Sto} {c q q2:Nat} {l n:List Nm} (hl:l.length + n.length ≤ 100000000) (h1:sget σ q = some ⟨92,cellsN l,none⟩) (h2:sget σ q2 = some ⟨92,cellsN n,none⟩):gapp Tryz.prog σ c 106 (.rsl q 0 l.length) (.rsl q2 0 n.length) = some (92,q,l.length + n.length,cellsN (l ++ n)):=appGN hl (srcNm h1) (viewNm h2)
noncomputable def bodyAp:Code:=(Tryz.f173).body.getD .skip
abbrev σN (kp:List (Nm × Nat)):Sto:=[(1,some ⟨88,[.mref 0],none⟩),(0,some (mapN kp))]
set_option maxHeartbeats 4000000 in
theorem append_tr (gl:List (Nat × List G)) (kp:List (Nm × Nat)) (hk:kp.length < 100000):Tr Tryz.prog bodyAp ⟨13,gl,[(0,.lit (.slice none 0 0)),(1,.clo (.func 124) [] [.ref 1 0])],σN kp,2,2,false⟩
  (fun e s => e = .ret ∧ ∃ ks',ks'.Perm (kp.map (·.1)) ∧ s = ⟨13,gl,[(4,.rsl 2 0 ks'.length)],[(2,some (rowN ks')),(0,some (mapN kp))],3,2,false⟩):=by
 unfold bodyAp Tryz.f173
 simp only [Option.getD_some]
 refine tr_virt 92 0 (by decide) rfl ?_
 refine wW ?_
 generalize hAS:Code.region 2 _ false = AS
 generalize hBD:Code.block 1 _ = BD
 refine tr_rangeFunc rfl rfl (by kernel_rfl) Tryz.func124 rfl (by show 2 ≤ 14; decide) rfl ?_
 simp only [Tryz.ntmps124,enterFr,List.nil_append,List.singleton_append,List.cons_append]
 refine wW ?_
 refine run_e rfl (gs_range (ob:=.iter (some 0) kp.length [] kp.length) rfl (fun d e => by cases e; show 5 < 14; decide) (by kernel_rfl)) ?_
 simp only [St.put]
 apply run_nil
 apply thn_n
 generalize hQ:(fun s => Blk' 0 _ .normal s) = Q0
 refine tr_mapwalk (it:=5) (a:=6) (b:=7) (iti:=5) (mi:=0) (clock:=kp.length) (since:=kp.length) (T:=88) (ty:=88) (es:=entsN kp)
  (S:=fun seen => ⟨14,gl,[(0,.yld 4),(1,.ref 1 0),(4,.mref 0),(5,.ref 5 0)],[(5,some ⟨88,[],some (.iter (some 0) kp.length seen kp.length)⟩),(if seen = [] then 2 else 6,some (rowN (keysN kp seen))),(3,some ⟨106,[.rsl (if seen = [] then 2 else 6) 0 seen.length],none⟩),(4,some ⟨0,[],some (.loop .ready none 13 [(2,.ref 3 0)] #[7] AS BD)⟩),(1,some ⟨88,[.mref 0],none⟩),(0,some (mapN kp))],7,5,false⟩)
  (fun seen => seen.Nodup ∧ ∀ n ∈ seen,n < kp.length) ⟨List.nodup_nil,by simp⟩ ?_ rfl ?_ ?_ ?_ ?_ ?_ ?_
 ·rintro ⟨k,g,n⟩ he
  exact (entsN_mem he).1
 ·rw [if_pos rfl]
  refine le_to [(0,0),(1,1),(2,2),(3,3),(4,4),(5,5)] (by decide) (by decide) (by decide) (wkfr_cons (wk_yld rfl) (wkfr_cons (wk_ref rfl) (wkfr_cons (wk_mref rfl) (wkfr_cons (wk_ref rfl) wkfr_nil)))) ?_
  refine wkst_consX rfl rfl rfl rfl (wkx_iter rfl) (by simp) ?_
  refine wkst_eq rfl rfl rfl (cellsN_imm _) ?_
  refine wkst_cons rfl rfl rfl rfl (by simp) (wk_one (wk_rsl rfl)) ?_
  refine wkst_consX rfl rfl rfl rfl (wkx_loop (wkl_cons (wk_ref rfl) wkl_nil)) (by simp) ?_
  refine wkst_cons rfl rfl rfl rfl (by simp) (wk_one (wk_mref rfl)) ?_
  refine wkst_consX rfl rfl rfl rfl (wkx_map rfl fun j k k' g g' n n' h1 h2 => ?_) (by simp) wkst_nil
  rw [h1] at h2
  cases h2
  obtain ⟨_,m,pv,_,_,rfl⟩:=entsN_mem (List.mem_of_getElem? h1)
  exact ⟨rfl,rfl,wk_imm (imm_lit _)⟩
 ·intro seen
  simp [giter,gev,fget_cons,sget_cons]
 ·intro seen
  by_cases h:seen = [] <;> simp [gmap,sget_cons,h]
 ·intro seen
  exact ⟨by show 6 < 14; decide,by show 7 < 14; decide⟩
 ·rintro seen k g n ⟨hnd,hlt⟩ hmem hnew
  obtain ⟨hn,m,pv,hm,rfl,rfl⟩:=entsN_mem hmem
  dsimp only
  have hge:∀ x,gentry ((5,some ⟨88,[],some (.iter (some 0) kp.length (seen ++ [n]) kp.length)⟩) :: (5,some ⟨88,[],some (.iter (some 0) kp.length seen kp.length)⟩) :: ((if seen = [] then 2 else 6),some (rowN (keysN kp seen))) :: (3,x) :: (4,some ⟨0,[],some (.loop .ready none 13 [(2,.ref 3 0)] #[7] AS BD)⟩) :: (1,some ⟨88,[.mref 0],none⟩) :: (0,some (mapN kp)) :: []) (.ref 5 0) = some (.tup [gNm m,vU pv]):=fun x => by
   have hmp:gmap ((5,some ⟨88,[],some (.iter (some 0) kp.length (seen ++ [n]) kp.length)⟩) :: (5,some ⟨88,[],some (.iter (some 0) kp.length seen kp.length)⟩) :: ((if seen = [] then 2 else 6),some (rowN (keysN kp seen))) :: (3,x) :: (4,some ⟨0,[],some (.loop .ready none 13 [(2,.ref 3 0)] #[7] AS BD)⟩) :: (1,some ⟨88,[.mref 0],none⟩) :: (0,some (mapN kp)) :: []) (.mref 0) = some (0,88,entsN kp,kp.length):=by
    by_cases h:seen = [] <;> simp [gmap,sget_cons,h]
   rw [← glit_N]
   exact gentry_at (g:=.ref 5 0) (iti:=5) (mi:=0) (since:=kp.length) (clock:=kp.length) (T:=88) (ty:=88) (seen:=seen) (by simp [giter,sget_cons]) hmp (by rw [entsN_born]; exact List.nodup_range) hmem
  refine tr_block (tr_seq (tr_region (run_e rfl (gs_entry (g:=.tup [gNm m,vU pv]) rfl (fun d e => by cases e; show 8 < 14; decide) (hge _)) ?_)))
  simp only [St.put]
  generalize hr0:(if seen = [] then 2 else 6) = r0
  repeat' (first | apply tr_seq | apply tr_region | apply run_nil | apply thn_n | apply thn_e | apply thn_r | apply blk_e | apply blk_n | apply blk_r | (refine blk_ne ?_ ?_; decide) | apply tr_block | apply tr_skip | apply tr_label | apply tr_exit | apply tr_ret | (refine tr_region_draw (bars:=[nope]) mixed (by kernel_rfl) ?_) | apply rund_nil | (apply run_v; simp (disch:=omega) [if_pos]; (first | rfl | exact ⟨rfl,rfl⟩ | exact ⟨rfl,rfl,rfl,rfl⟩); decide) | (apply rund_v; simp (disch:=omega) [if_pos]; (first | rfl | exact ⟨rfl,rfl⟩ | exact ⟨rfl,rfl,rfl,rfl⟩); decide) | (apply run_conv; simp (disch:=omega) [if_pos]; (first | rfl | exact ⟨rfl,rfl⟩ | exact ⟨rfl,rfl,rfl,rfl⟩); decide) | (apply rund_conv; simp (disch:=omega) [if_pos]; (first | rfl | exact ⟨rfl,rfl⟩ | exact ⟨rfl,rfl,rfl,rfl⟩); decide) | (apply run_min; simp (disch:=omega) [if_pos]; (first | rfl | exact ⟨rfl,rfl⟩ | exact ⟨rfl,rfl,rfl,rfl⟩); decide) | (apply rund_min; simp (disch:=omega) [if_pos]; (first | rfl | exact ⟨rfl,rfl⟩ | exact ⟨rfl,rfl,rfl,rfl⟩); decide) | (apply run_max; simp (disch:=omega) [if_pos]; (first | rfl | exact ⟨rfl,rfl⟩ | exact ⟨rfl,rfl,rfl,rfl⟩); decide) | (apply rund_max; simp (disch:=omega) [if_pos]; (first | rfl | exact ⟨rfl,rfl⟩ | exact ⟨rfl,rfl,rfl,rfl⟩); decide) | (apply run_lenS; simp (disch:=omega) [if_pos]; (first | rfl | exact ⟨rfl,rfl⟩ | exact ⟨rfl,rfl,rfl,rfl⟩); decide) | (apply rund_lenS; simp (disch:=omega) [if_pos]; (first | rfl | exact ⟨rfl,rfl⟩ | exact ⟨rfl,rfl,rfl,rfl⟩); decide) | (apply run_bs; simp (disch:=omega) [if_pos]; (first | rfl | exact ⟨rfl,rfl⟩ | exact ⟨rfl,rfl,rfl,rfl⟩); decide) | (apply run_app; simp (disch:=omega) [if_pos]; (first | rfl | exact ⟨rfl,rfl⟩ | exact ⟨rfl,rfl,rfl,rfl⟩); decide) | (apply run_build; simp (disch:=omega) [if_pos]; (first | rfl | exact ⟨rfl,rfl⟩ | exact ⟨rfl,rfl,rfl,rfl⟩); decide) | (apply run_box; simp (disch:=omega) [if_pos]; (first | rfl | exact ⟨rfl,rfl⟩ | exact ⟨rfl,rfl,rfl,rfl⟩); decide) | (apply run_alloc; simp (disch:=omega) [if_pos]; (first | rfl | exact ⟨rfl,rfl⟩ | exact ⟨rfl,rfl,rfl,rfl⟩); decide) | (apply rund_build; simp (disch:=omega) [if_pos]; (first | rfl | exact ⟨rfl,rfl⟩ | exact ⟨rfl,rfl,rfl,rfl⟩); decide) | (apply run_sto; simp (disch:=omega) [if_pos]; rfl) | (apply rund_bs; decide; simp (disch:=omega) [if_pos]; (first | rfl | exact ⟨rfl,rfl⟩ | exact ⟨rfl,rfl,rfl,rfl⟩); decide) | (apply rund_app; decide; simp (disch:=omega) [if_pos]; (first | rfl | exact ⟨rfl,rfl⟩ | exact ⟨rfl,rfl,rfl,rfl⟩); decide) | (apply rund_sto; decide; simp (disch:=omega) [if_pos]; rfl))
  refine run_sto (i:=7) (ob:=rowN [m]) (by rw [gNm_c]; kernel_rfl) ?_
  apply run_nil
  apply thn_n
  have hr:r0 = 2 ∨ r0 = 6:=by subst hr0; split <;> simp
  refine tr_seq (tr_regionN ?_)
  refine rn_v rfl rfl (by show 10 < 14; decide) (g:=.yld 4) rfl ?_
  refine rn_v rfl rfl (by show 11 < 14; decide) (g:=gNm m) (by rw [gNm_c]; kernel_rfl) ?_
  simp only [St.put]
  refine rn_n rfl (gsn_yield (i:=4) (n:=13) (t:=0) (pe:=none) (fr:=[(2,.ref 3 0)]) (ps:=#[7]) («as»:=AS) (bd:=BD)
   (S:=fun j x t' s => j = none ∧ x = .loop .ready none 13 [(2,.ref 3 0)] #[7] AS BD ∧ t' = 0 ∧ s.c = 11 ∧ sget s.σ 10 = some (rowN (keysN kp (seen ++ [n]))) ∧ sget s.σ 3 = some ⟨106,[.rsl 10 0 (seen ++ [n]).length],none⟩ ∧ sget s.σ 5 = some ⟨88,[],some (.iter (some 0) kp.length (seen ++ [n]) kp.length)⟩ ∧ sget s.σ 1 = some ⟨88,[.mref 0],none⟩ ∧ sget s.σ 0 = some (mapN kp)) rfl (fun d e => by cases e; show 12 < 14; decide) rfl ?_ rfl (by decide) ?_) ?_
  ·rcases hr with rfl | rfl <;> rfl
  ·refine tr_as hAS ?_
   simp only [Array.toList,List.map_cons,List.map_nil,List.zip_cons_cons,List.zip_nil_right,setAll,gev_tmp,fget_cons,↓reduceIte]
   refine wW ?_
   refine run_sto (i:=8) (ob:=rowN [m]) (by rw [gNm_c]; kernel_rfl) ?_
   apply run_nil
   refine ⟨rfl,rfl,0,none,13,[(2,.ref 3 0)],#[7],AS,BD,?_,?_⟩
   ·rcases hr with rfl | rfl <;> rfl
   refine tr_as hBD ?_
   have hl:(keysN kp seen).length = seen.length:=by simp [keysN]
   dsimp only
   refine tr_block (tr_region ?_)
   refine run_v (g:=.rsl r0 0 seen.length) (by rcases hr with rfl | rfl <;> kernel_rfl) (by decide) ?_
   refine run_v (g:=gNm m) (by rw [gNm_c]; kernel_rfl) (by decide) ?_
   refine run_bs (bsN m) (by decide) ?_
   rw [← hl]
   refine run_app (i:=r0) (appNm (q:=r0) (q2:=9) (l:=keysN kp seen) (n:=[m]) ?_ ?_ ?_) (by decide) ?_
   ·have:(keysN kp seen).length ≤ kp.length:=by
     rw [hl]
     have:=List.Nodup.length_le_of_subset hnd (fun n hn => List.mem_range.2 (hlt n hn))
     simpa using this
    show _ + 1 ≤ _
    omega
   ·rcases hr with rfl | rfl <;> rfl
   ·rfl
   refine run_sto (i:=3) (ob:=⟨106,[.rsl 10 0 ((keysN kp seen).length + 1)],none⟩) (by rcases hr with rfl | rfl <;> kernel_rfl) ?_
   apply run_nil
   have hmn:(kp.getD n default).1 = m:=by rw [List.getD_eq_getElem?_getD,hm]; rfl
   have hks:keysN kp seen ++ [m] = keysN kp (seen ++ [n]):=by simp [keysN,← hmn]
   apply blk_n
   refine ⟨rfl,none,0,.busy,none,13,[(2,.ref 3 0)],#[7],AS,BD,rfl,?_,rfl,rfl,rfl,rfl,?_,?_,?_,?_,?_⟩
   ·rcases hr with rfl | rfl <;> rfl
   ·rw [← hks]; rcases hr with rfl | rfl <;> rfl
   ·rw [List.length_append,← hl]; rcases hr with rfl | rfl <;> rfl
   ·rcases hr with rfl | rfl <;> rfl
   ·rcases hr with rfl | rfl <;> rfl
   ·rcases hr with rfl | rfl <;> rfl
  ·rintro s' ⟨j,x,t',s,⟨rfl,rfl,rfl,hc,h10,h3,h5,h0,h1⟩,rfl⟩
   refine rn_v rfl rfl (by show 13 < 14; decide) (g:=.lit (.bool false)) (by kernel_rfl) ?_
   simp only [St.put,Option.isNone_none]
   refine thn_n (tr_condF rfl (tr_skip ?_))
   apply blk_n
   apply thn_n
   refine ⟨⟨by rw [List.nodup_append]; exact ⟨hnd,by simp,by rintro a ha b hb rfl; simp at hb; subst hb; exact hnew ha⟩,?_⟩,?_⟩
   ·intro x hx
    rcases List.mem_append.1 hx with hx | hx
    ·exact hlt x hx
    ·simp at hx; subst hx; exact hn
   rw [hc,if_neg (by simp)]
   refine le_to [(0,0),(1,1),(2,2),(3,3),(4,4),(5,5),(6,10)] (by decide) (by decide) (by decide) (wkfr_cons (wk_yld rfl) (wkfr_cons (wk_ref rfl) (wkfr_cons (wk_mref rfl) (wkfr_cons (wk_ref rfl) wkfr_nil)))) ?_
   refine wkst_consX rfl (by rw [sget_cons,if_neg (by decide)]; exact h5) rfl rfl (wkx_iter rfl) (by simp) ?_
   refine wkst_eq rfl (by rw [sget_cons,if_neg (by decide)]; exact h10) rfl (cellsN_imm _) ?_
   refine wkst_cons rfl (by rw [sget_cons,if_neg (by decide)]; exact h3) rfl rfl (by simp) (wk_one (wk_rsl rfl)) ?_
   refine wkst_consX rfl rfl rfl rfl (wkx_loop (wkl_cons (wk_ref rfl) wkl_nil)) (by simp) ?_
   refine wkst_cons rfl (by rw [sget_cons,if_neg (by decide)]; exact h0) rfl rfl (by simp) (wk_one (wk_mref rfl)) ?_
   refine wkst_consX rfl (by rw [sget_cons,if_neg (by decide)]; exact h1) rfl rfl (wkx_map rfl fun j k k' g g' n n' h1 h2 => ?_) (by simp) wkst_nil
   rw [h1] at h2
   cases h2
   obtain ⟨_,m,pv,_,_,rfl⟩:=entsN_mem (List.mem_of_getElem? h1)
   exact ⟨rfl,rfl,wk_imm (imm_lit _)⟩
 ·rintro seen ⟨hnd,hlt⟩ hall
  have hperm:(keysN kp seen).Perm (kp.map (·.1)):=keysN_perm hnd hlt fun n hn => by
   obtain ⟨m,hm⟩:∃ m,kp[n]? = some m:=⟨_,List.getElem?_eq_getElem hn⟩
   have he:(vN m.1,vU m.2,n) ∈ entsN kp:=List.mem_of_getElem? (by rw [entsN_get,hm]; rfl)
   exact hall _ he
  have hl:(keysN kp seen).length = seen.length:=by simp [keysN]
  have hr:(if seen = [] then 2 else 6) = 2 ∨ (if seen = [] then 2 else 6) = 6:=by split <;> simp
  generalize (if seen = [] then 2 else 6) = r0 at hr ⊢
  refine ⟨.inl rfl,rfl,0,.ready,none,13,[(2,.ref 3 0)],#[7],AS,BD,?_,by simp,?_⟩
  ·rcases hr with rfl | rfl <;> rfl
  apply blk_n
  apply thn_n
  dsimp only
  refine tr_seq (tr_region ?_)
  refine run_v (g:=.rsl r0 0 seen.length) (by rcases hr with rfl | rfl <;> kernel_rfl) (by decide) ?_
  refine zv (.rsl r0 0 seen.length) ?_
  apply run_nil
  apply thn_n
  refine (tr_ret (st:=⟨13,gl,[(4,.rsl 2 0 (keysN kp seen).length)],[(2,some (rowN (keysN kp seen))),(0,some (mapN kp))],3,2,false⟩) ⟨rfl,keysN kp seen,hperm,rfl⟩).le ?_
  rw [hl]
  rcases hr with rfl | rfl
  ·refine le_to [(0,0),(1,1),(2,2)] (by decide) (by decide) (by decide) (wkfr_cons (wk_rsl rfl) wkfr_nil) ?_
   exact wkst_eq rfl rfl rfl (cellsN_imm _) (wkst_consX rfl rfl rfl rfl (wkx_sameN _ _) (by simp) wkst_nil)
  ·refine le_to [(0,0),(1,1),(2,6)] (by decide) (by decide) (by decide) (wkfr_cons (wk_rsl rfl) wkfr_nil) ?_
   exact wkst_eq rfl rfl rfl (cellsN_imm _) (wkst_consX rfl rfl rfl rfl (wkx_sameN _ _) (by simp) wkst_nil)
noncomputable def bodyCo:Code:=(Tryz.f122).body.getD .skip
noncomputable def bodySo:Code:=(Tryz.f81).body.getD .skip
theorem rho_one {a b i j:Nat} (h:rho [(a,b)] i = some j):i = a ∧ j = b:=by
 have:=rho_key h
 simp at this
 exact this
set_option maxHeartbeats 2000000 in
theorem collect_tr (gl:List (Nat × List G)) (kp:List (Nm × Nat)) (hk:kp.length < 100000):Tr Tryz.prog bodyCo ⟨5,gl,[(0,.clo (.func 124) [] [.ref 1 0])],σN kp,2,2,false⟩
  (fun e s => e = .ret ∧ ∃ ks',ks'.Perm (kp.map (·.1)) ∧ s = ⟨5,gl,[(2,.rsl 2 0 ks'.length)],[(2,some (rowN ks')),(0,some (mapN kp))],3,2,false⟩):=by
 unfold bodyCo Tryz.f122
 simp only [Option.getD_some]
 apply tr_seq
 apply tr_region
 refine zv (.lit (.slice none 0 0)) ?_
 apply run_nil
 apply thn_n
 apply tr_seq
 refine tr_regionN ?_
 refine rn_v rfl rfl (by show 3 < 5; decide) (g:=.clo (.func 124) [] [.ref 1 0]) rfl ?_
 simp only [St.put]
 refine rn_n rfl (gsn_callI (fst:=[]) (cap:=[]) rfl (fun d e => by cases e; show 4 < 5; decide) rfl (by kernel_rfl) Tryz.func173 (body:=bodyAp) rfl (by show 2 ≤ 13; decide) (append_tr gl kp hk) ?_) ?_
 ·rintro e s ⟨rfl,ks',hp,rfl⟩
  exact ⟨.inr rfl,rfl,[.rsl 2 0 ks'.length],rfl⟩
 ·rintro s' ⟨e,s,gs',⟨rfl,ks',hp,rfl⟩,hgs,rfl⟩
  have hgs:some [G.rsl 2 0 ks'.length] = some gs':=hgs
  cases hgs
  refine rn_v rfl rfl (by show 2 < 5; decide) (g:=.rsl 2 0 ks'.length) (by kernel_rfl) ?_
  simp only [St.put]
  refine thn_n ?_
  refine (tr_ret (st:=⟨5,gl,[(2,.rsl 2 0 ks'.length)],[(2,some (rowN ks')),(0,some (mapN kp))],3,2,false⟩) ⟨rfl,ks',hp,rfl⟩).le ?_
  refine le_to [(0,0),(1,1),(2,2)] (by decide) (by decide) (by decide) (wkfr_cons (wk_rsl rfl) wkfr_nil) ?_
  exact wkst_eq rfl rfl rfl (cellsN_imm _) (wkst_consX rfl rfl rfl rfl (wkx_sameN _ _) (by simp) wkst_nil)
set_option maxHeartbeats 2000000 in
theorem sorted_tr (gl:List (Nat × List G)) (kp:List (Nm × Nat)) (srt:List Nm) (hsp:(kp.map (·.1)).Perm srt) (hss:srt.Pairwise fun a b => ltN a b) (hsb:∀ m ∈ srt,SmallN m) (hk:kp.length < 100000) :
  Tr Tryz.prog bodySo ⟨12,gl,[(0,.clo (.func 124) [] [.ref 1 0]),(1,.clo (.func 37) [] [])],σN kp,2,2,false⟩
  (fun e s => e = .ret ∧ s = ⟨12,gl,[(4,.rsl 2 0 srt.length)],[(2,some (rowN srt)),(0,some (mapN kp))],3,2,false⟩):=by
 unfold bodySo Tryz.f81
 simp only [Option.getD_some]
 apply tr_seq
 apply tr_region
 refine zv (.lit (.slice none 0 0)) ?_
 apply run_nil
 apply thn_n
 apply tr_seq
 refine tr_regionN ?_
 refine rn_v rfl rfl (by show 6 < 12; decide) (g:=.clo (.func 124) [] [.ref 1 0]) rfl ?_
 simp only [St.put]
 refine rn_n rfl (gsn_callI (fst:=[]) (cap:=[]) rfl (fun d e => by cases e; show 7 < 12; decide) rfl (by kernel_rfl) Tryz.func122 (body:=bodyCo) rfl (by show 1 ≤ 5; decide) (collect_tr gl kp hk) ?_) ?_
 ·rintro e s ⟨rfl,ks',hp,rfl⟩
  exact ⟨.inr rfl,rfl,[.rsl 2 0 ks'.length],rfl⟩
 ·rintro s' ⟨e,s,gs',⟨rfl,ks',hp,rfl⟩,hgs,rfl⟩
  have hgs:some [G.rsl 2 0 ks'.length] = some gs':=hgs
  cases hgs
  have hlen:=(hp.trans hsp).length_eq
  refine rn_v rfl rfl (by show 5 < 12; decide) (g:=.rsl 2 0 ks'.length) (by kernel_rfl) ?_
  simp only [St.put]
  apply thn_n
  apply tr_seq
  apply tr_region
  refine zv (.rsl 2 0 ks'.length) ?_
  refine zv (.clo (.func 37) [] []) ?_
  refine run_e rfl (gs_callM (fst:=[]) (cap:=[]) (σ':=[(2,some (rowN srt)),(0,some (mapN kp))]) (c':=3) (r':=.tup []) [(0,2)] [(2,0)] [] rfl (fun d e => by cases e; show 10 < 12; decide) rfl (by kernel_rfl) (sort_fnN gl ks' srt (hp.trans hsp) hss hsb (by rw [← hsp.length_eq]; simpa using hk)) rfl ?_ ?_ (by decide) ?_ (by show 3 ≤ 3; decide) ?_ ?_ (by decide) ?_ ?_) ?_
  ·intro i g g' h1 h2
   match i,h1,h2 with
   | 0,h1,h2 => cases h1; cases h2; exact vw_rsl rfl
   | 1,h1,h2 => cases h1; cases h2; exact vw_imm (imm_clo (fun _ h => by cases h) (fun _ h => by cases h))
   | n + 2,h1,h2 => simp at h2
  ·intro i i' j h1 h2
   exact (rho_one h1).1.trans (rho_one h2).1.symm
  ·exact vwst_cons rfl (by simp) rfl rfl rfl (Nat.le_refl _) (fun k g g' h1 h2 => by rw [h1] at h2; cases h2; exact vw_imm (cellsN_imm _ _ (List.mem_of_getElem? h1))) vwst_nil
  ·intro k i h1 h2
   obtain ⟨rfl,rfl⟩:=rho_one h1
   exact ⟨by decide,rfl⟩
  ·intro i i' j h1 h2
   exact (rho_one h1).1.trans (rho_one h2).1.symm
  ·intro k ob' hk'
   rw [sget_cons] at hk'
   split at hk'
   ·rename_i e
    subst e
    cases hk'
    exact .inl ⟨0,_,rfl,rfl,rfl,Nat.le_refl _,fun h => h,⟨rfl,rfl⟩,fun x g g' h1 h2 => by rw [h1] at h2; cases h2; exact rn_imm (cellsN_imm _ _ (List.mem_of_getElem? h1))⟩
   ·rw [sget_cons] at hk'
    split at hk'
    ·rename_i e
     subst e
     exact .inr ⟨rfl,hk',by simp,by simp⟩
    ·cases hk'
  ·exact rn_tup rfl (fun i g g' h => by simp at h)
  simp only [St.put]
  apply run_nil
  apply thn_n
  apply tr_seq
  apply tr_region
  refine zv (.rsl 2 0 ks'.length) ?_
  refine zv (.rsl 2 0 ks'.length) ?_
  apply run_nil
  apply thn_n
  rw [hlen]
  refine (tr_ret (st:=⟨12,gl,[(4,.rsl 2 0 srt.length)],[(2,some (rowN srt)),(0,some (mapN kp))],3,2,false⟩) ⟨rfl,rfl⟩).le ?_
  refine le_to [(0,0),(1,1),(2,2)] (by decide) (by decide) (by decide) (wkfr_cons (wk_rsl rfl) wkfr_nil) ?_
  exact wkst_eq rfl rfl rfl (cellsN_imm _) (wkst_consX rfl rfl rfl rfl (wkx_sameN _ _) (by simp) wkst_nil)
theorem sorted_fnM (gl:List (Nat × List G)) (kp:List (Nm × Nat)) (srt:List Nm) (hsp:(kp.map (·.1)).Perm srt) (hss:srt.Pairwise fun a b => ltN a b) (hsb:∀ m ∈ srt,SmallN m) (hk:kp.length < 100000) :
  FnM Tryz.prog gl 81 [.clo (.func 124) [] [.ref 1 0],.clo (.func 37) [] []] (σN kp) 2 2 (.rsl 2 0 srt.length) [(2,some (rowN srt)),(0,some (mapN kp))]:=by
 refine fnm_enter (c:=bodySo) Tryz.func81 rfl (by simp [Tryz.ntmps81]) (fun i hi => ?_) ?_
 ·match i,hi with
  | 0,_ => exact ⟨_,rfl⟩
  | 1,_ => exact ⟨_,rfl⟩
 ·simp only [Tryz.ntmps81,enterFr]
  refine (sorted_tr gl kp srt hsp hss hsb hk).mono ?_
  rintro e s ⟨rfl,rfl⟩
  unfold EndM
  refine ⟨.inr rfl,[.rsl 2 0 srt.length],[(0,0),(1,1),(2,2)],rfl,fun i hi => ?_,fun i i' j h1 h2 => ?_,wk_rsl rfl,?_⟩
  ·match i,hi with
   | 0,_ => rfl
   | 1,_ => rfl
  ·have a1:=rho_key h1
   have a2:=rho_key h2
   simp at a1 a2
   omega
  ·exact wkst_eq rfl rfl rfl (cellsN_imm _) (wkst_consX rfl rfl rfl rfl (wkx_sameN _ _) (by simp) wkst_nil)
end
end Go.Proofs.YtpehhhbmobmedaaGreatDoor
