/- Small words on memory, of no program: what a call leaves as it was ('Keeps'), a block known whole ('Blk'), rows of cells, a set kept in a map from int to bool. -/
import Derived.WalkKit
import Derived.WalkSpells
import Derived.WalkLawsBesides
import Derived.Maps.OwnSet
import Derived.BigQuiet
import Derived.Deep.QuietTactic
import Derived.Lib.Hide
import Derived.Deep.Cut
import Derived.Deep.CutBlock
import Derived.Deep.DeepCutAuto
import Derived.Deep.LoopGhost
import Derived.Deep.Light
import Derived.Deep.DeepFit
import Derived.Deep.RegionWith
import Derived.Deep.MidRow
namespace Go.Proofs.YtpehhhbmobmedaaGreatDoor
set_option linter.unusedVariables false
set_option linter.unusedSimpArgs false
set_option linter.unusedSectionVars false
section
open Go.RowKit

theorem ask_drawn {α:Type}:∀ (q:Ask α) (w:World),w.drawn ≤ (w.ask q).2.drawn
 | .done a,w => Nat.le_refl _
 | .ask what range k,w => by
  unfold World.ask
  dsimp only
  split
  ·exact ask_drawn (k _) w
  ·exact Nat.le_trans (Nat.le_succ _) (ask_drawn (k _) { w with drawn:=w.drawn + 1 })
theorem sys_drawn (c:Sys) (w:World):w.drawn ≤ (w.sys c).2.drawn:=by
 have h:=ask_drawn (Kernel.perform c w.os) w
 unfold World.sys
 split
 ·exact Nat.le_refl _
 ·rename_i r os w' _ e
  rw [e] at h
  exact h
theorem except_bind {ε α β:Type} {x:Except ε α} {f:α → Except ε β} {b:β} (h:(x >>= f) = .ok b):∃ a,x = .ok a ∧ f a = .ok b:=by
 cases x with
 | error e => cases h
 | ok a => exact ⟨a,rfl,h⟩
theorem viewStore_drawn {p:Program} {w w':World} {a k:Addr} {u:TypeId} {v:Value} {at':Bool} {l:List Addr} (h:w.viewStore p a u k v at' = .ok (w',l)):w'.drawn = w.drawn:=by
 unfold World.viewStore at h
 repeat' (first
  | (obtain ⟨_,_,h⟩:=except_bind h)
  | (split at h)
  | (cases h; done)
  | (cases h; rfl))
theorem farStore_drawn {p:Program} {w w':World} {a:Addr} {v:Value} {at':Bool} {l:List Addr} (h:w.farStore p a v at' = .ok (w',l)):w'.drawn = w.drawn:=by
 unfold World.farStore at h
 split at h
 ·split at h
  ·rename_i r hr
   cases h
   exact viewStore_drawn hr
  ·cases h
 ·cases h
theorem sem_drawn {α:Type} (p:Program) (s:Sem α):∀ (w w':World) (v:α),s.run p w = .ok v w' → w.drawn ≤ w'.drawn:=by
 induction s with
 | pure a => intro w w' v h; unfold Sem.run at h; cases h; exact Nat.le_refl _
 | load m a k ih =>
  intro w w' v h
  unfold Sem.run at h
  split at h
  ·exact (have x:=ih _ _ _ _ h; x)
  ·split at h
   ·exact (have x:=ih _ _ _ _ h; x)
   ·cases h
 | store m a u k ih =>
  intro w w' v h
  by_cases hu:(∃ x,u = .agg x) ∨ (∃ x,u = .tuple x)
  ·rcases hu with ⟨x,rfl⟩ | ⟨x,rfl⟩ <;> (unfold Sem.run at h; cases h)
  ·rw [Sem.run] at h
   ·split at h
    ·split at h
     ·cases h
     ·exact (have x:=ih _ _ _ h; x)
    ·split at h
     ·rename_i w1 l e
      have:=farStore_drawn e
      have:=ih _ _ _ h
      omega
     ·cases h
   ·exact fun x e => hu (.inl ⟨x,e⟩)
   ·exact fun x e => hu (.inr ⟨x,e⟩)
 | new o k ih => intro w w' v h; unfold Sem.run at h; exact (have x:=ih _ _ _ _ h; x)
 | shape r k ih => intro w w' v h; unfold Sem.run at h; exact (have x:=ih _ _ _ _ h; x)
 | freeze a n k ih =>
  intro w w' v h
  unfold Sem.run at h
  have e:(w.freeze a n).drawn = w.drawn:=by unfold World.freeze; split <;> rfl
  have:=ih _ _ _ h
  omega
 | frozen a k ih => intro w w' v h; unfold Sem.run at h; exact (have x:=ih _ _ _ _ h; x)
 | getObj r k ih =>
  intro w w' v h
  unfold Sem.run at h
  split at h
  ·cases h
  ·exact (have x:=ih _ _ _ _ h; x)
  ·cases h
 | setObj r o k ih =>
  intro w w' v h
  unfold Sem.run at h
  split at h
  ·cases h
  ·exact (have x:=ih _ _ _ h; x)
  ·cases h
 | choose q k ih =>
  intro w w' v h
  unfold Sem.run at h
  split at h
  ·exact (have x:=ih _ _ _ _ h; x)
  ·have:=ih _ _ _ _ h
   exact Nat.le_trans (Nat.le_succ _) this
 | sys c k ih =>
  intro w w' v h
  unfold Sem.run at h
  exact Nat.le_trans (sys_drawn c w) (ih _ _ _ _ h)
 | program k ih => intro w w' v h; unfold Sem.run at h; exact (have x:=ih _ _ _ _ h; x)
 | mark m k ih => intro w w' v h; unfold Sem.run at h; exact (have x:=ih _ _ _ h; x)
 | halt x => intro w w' v h; unfold Sem.run at h; cases h

structure Keeps (S:Nat → Prop) (w w':World):Prop where
 os:w'.os = w.os
 tape:w'.tape = w.tape
 output:w'.output = w.output
 size:w.heap.size ≤ w'.heap.size
 block:∀ k,k < w.heap.size → ¬ S k → w'.heap[k]? = w.heap[k]?
 drawn:w.drawn ≤ w'.drawn

theorem Keeps.refl (S:Nat → Prop) (w:World):Keeps S w w:=⟨rfl,rfl,rfl,Nat.le_refl _,fun _ _ _ => rfl,Nat.le_refl _⟩
theorem Keeps.trans {S:Nat → Prop} {a b c:World} (h:Keeps S a b) (k:Keeps S b c):Keeps S a c :=
 ⟨k.os.trans h.os,k.tape.trans h.tape,k.output.trans h.output,Nat.le_trans h.size k.size,fun i hi hs => (k.block i (Nat.lt_of_lt_of_le hi h.size) hs).trans (h.block i hi hs),Nat.le_trans h.drawn k.drawn⟩
theorem Keeps.mono {S S':Nat → Prop} {w w':World} (h:Keeps S w w') (hS:∀ k,k < w.heap.size → S k → S' k):Keeps S' w w' :=
 ⟨h.os,h.tape,h.output,h.size,fun k hk hs => h.block k hk (fun x => hs (hS k hk x)),h.drawn⟩
theorem Keeps.then {S S':Nat → Prop} {a b c:World} (h:Keeps S a b) (k:Keeps S' b c) (hS:∀ i,i < a.heap.size → S' i → S i):Keeps S a c :=
 ⟨k.os.trans h.os,k.tape.trans h.tape,k.output.trans h.output,Nat.le_trans h.size k.size,fun i hi hs => (k.block i (Nat.lt_of_lt_of_le hi h.size) (fun x => hs (hS i hi x))).trans (h.block i hi hs),Nat.le_trans h.drawn k.drawn⟩
theorem Keeps.below {B:Nat} {w w':World} (h:Below B w w') (hd:w.drawn ≤ w'.drawn):Keeps (fun k => B ≤ k) w w':=⟨h.os,h.tape,h.output,h.size,fun k _ hs => h.block k (by omega),hd⟩
theorem Keeps.toBelow {S:Nat → Prop} {w w':World} {B:Nat} (h:Keeps S w w') (hB:B ≤ w.heap.size) (hS:∀ k,k < B → ¬ S k):Below B w w' :=
 ⟨h.os,h.tape,h.output,h.size,fun k hk => h.block k (by omega) (hS k hk)⟩
theorem Keeps.drewN {S:Nat → Prop} {a w:World} (h:Keeps S a w) (n:Nat):Keeps S a (w.drewN n):=h.trans ⟨rfl,rfl,rfl,Nat.le_refl _,fun _ _ _ => rfl,Nat.le_add_right _ _⟩
theorem Keeps.drew {S:Nat → Prop} {a w:World} (h:Keeps S a w):Keeps S a w.drew:=h.trans ⟨rfl,rfl,rfl,Nat.le_refl _,fun _ _ _ => rfl,Nat.le_succ _⟩
theorem Keeps.alloc {S:Nat → Prop} {a w:World} (h:Keeps S a w) (o:Obj):Keeps S a (w.alloc o) :=
 h.trans ⟨rfl,rfl,rfl,by simp,fun k hk _ => Below.heap_alloc _ _ _ hk,Nat.le_refl _⟩
theorem Keeps.setCell {S:Nat → Prop} {a w:World} (h:Keeps S a w) {p:Addr} (hp:p.block < a.heap.size → S p.block) (u:Value):Keeps S a (w.setCell p u) :=
 ⟨h.os,h.tape,h.output,by simp only [World.size_setCell]; exact h.size,fun k hk hs => (Below.heap_setCell _ _ _ _ (fun e => hs (by subst e; exact hp hk))).trans (h.block k hk hs),h.drawn⟩
theorem Keeps.lt {S:Nat → Prop} {w w':World} (h:Keeps S w w') {k:Nat} (hk:k < w.heap.size):k < w'.heap.size:=Nat.lt_of_lt_of_le hk h.size
theorem Keeps.cell {S:Nat → Prop} {w w':World} (h:Keeps S w w') {p:Addr} (hk:p.block < w.heap.size) (hs:¬ S p.block):w'.cell? p = w.cell? p:=World.cell?_of_block (w:=w) (h.block p.block hk hs)
theorem Keeps.frozen {S:Nat → Prop} {w w':World} (h:Keeps S w w') {p:Addr} (hk:p.block < w.heap.size) (hs:¬ S p.block):w'.frozen? p = w.frozen? p:=World.frozen?_of_block (w:=w) (h.block p.block hk hs)

def Blk (w:World) (b:Nat) (t:TypeId) (xs:List Value):Prop:=w.heap[b]? = some (.cells xs.toArray t (0,0))
theorem Blk.lt {w:World} {b:Nat} {t:TypeId} {xs:List Value} (h:Blk w b t xs):b < w.heap.size:=(Array.getElem?_eq_some_iff.1 h).1
theorem Blk.cell {w:World} {b:Nat} {t:TypeId} {xs:List Value} (h:Blk w b t xs) (i:Nat):w.cell? ⟨b,i,none⟩ = xs[i]?:=by
 have:=cell_of_row w b i _ _ _ h
 simpa using this
theorem Blk.frozen {w:World} {b:Nat} {t:TypeId} {xs:List Value} (h:Blk w b t xs) (i:Nat):w.frozen? ⟨b,i,none⟩ = false:=frozen_of_row w b i _ _ h
theorem Blk.keeps {S:Nat → Prop} {w w':World} {b:Nat} {t:TypeId} {xs:List Value} (h:Blk w b t xs) (k:Keeps S w w') (hs:¬ S b):Blk w' b t xs:=(k.block b h.lt hs).trans h
theorem Blk.alloc {w:World} {b:Nat} {t:TypeId} {xs:List Value} (h:Blk w b t xs) (o:Obj):Blk (w.alloc o) b t xs:=(Below.heap_alloc w o b h.lt).trans h
theorem Blk.drewN {w:World} {b:Nat} {t:TypeId} {xs:List Value} (h:Blk w b t xs) (n:Nat):Blk (w.drewN n) b t xs:=h
theorem Blk.new (w:World) (t:TypeId) (xs:List Value):Blk (w.alloc (.cells xs.toArray t)) w.heap.size t xs:=heap_alloc_new w _
theorem Blk.set {w:World} {b:Nat} {t:TypeId} {xs:List Value} (h:Blk w b t xs) (i:Nat) (v:Value):Blk (w.setCell ⟨b,i,none⟩ v) b t (xs.set i v):=by
 have:=heap_setCell_same w b i _ t v h
 simpa [Blk] using this
/-! ### a set of ints, kept in a map[int]bool -/
section
variable {P:Program} {kT eT mT:TypeId}

def SetAt (P:Program) (kT eT:TypeId) (w:World) (b:Nat) (S:Int → Bool) (size:Nat):Prop :=
 ∃ (n:Nat) (D:DataW Unit),n ≤ size ∧ w.ownsMap P kT (plainElem P eT) b n D ∧ (∀ x,(Lit.int .i64 x).wf = true → D.atKey (.int .i64 x) (.lit (.bool false)) = .lit (.bool (S x)))

theorem SetAt.lt {w:World} {b:Nat} {S:Int → Bool} {size:Nat} (h:SetAt P kT eT w b S size):b < w.heap.size:=by
 obtain ⟨n,D,_,h,_⟩:=h
 exact h.lt

theorem SetAt.keeps {T:Nat → Prop} {w w':World} {b:Nat} {S:Int → Bool} {size:Nat} (h:SetAt P kT eT w b S size) (k:Keeps T w w') (hs:¬ T b):SetAt P kT eT w' b S size:=by
 obtain ⟨n,D,hn,⟨es,clock,hb,r⟩,hS⟩:=h
 exact ⟨n,D,hn,⟨es,clock,(k.block b (Array.getElem?_eq_some_iff.1 hb).1 hs).trans hb,r⟩,hS⟩

theorem SetAt.made (w:World):SetAt P kT eT (w.alloc (.map #[] 0)) w.heap.size (fun _ => false) 0 :=
 ⟨0,.map [],Nat.le_refl _,World.ownsMap_made w P kT _,fun _ _ => rfl⟩

theorem SetAt.look {w:World} {b:Nat} {S:Int → Bool} {size:Nat} (h:SetAt P kT eT w b S size) (hk:P.underlying kT = some (.int .i64)) (he:P.underlying eT = some .bool) (ht:P.underlying mT = some (.map kT eT))
  (hz:∀ w,(zeroValue eT).run P w = .ok (.bool false) w) (x:Int) (hx:(Lit.int .i64 x).wf = true):(Instr.lookup mT (.map (some b)) (.int .i64 x) false).run P w = .ok (.bool (S x)) w:=by
 obtain ⟨n,D,_,h,hS⟩:=h
 obtain ⟨v,ps,hrun,hv⟩:=h.lookup (Maps.int_keyed hk) ht (hz w) (plainElem_bool he false) (Maps.keyOf_int_mk hk hx)
 rw [hS x hx] at hv
 have:v = .bool (S x):=by
  unfold plainElem at hv
  rw [he] at hv
  cases v <;> simp at hv
  rw [hv.1]
 rw [this] at hrun
 exact hrun

end

/-! ### a slice that reads as a list of ints -/
def IntsAt (w:World) (lo hi:Nat) (v:Value) (zs:List Int):Prop :=
 ∃ a cap,v = .slice a zs.length cap ∧ zs.length ≤ cap ∧ cap ≤ 9223372036854775807 ∧ (∀ z ∈ zs,(Lit.int .i64 z).wf = true) ∧ (∀ x,a = some x → lo ≤ x.block ∧ x.block < hi) ∧
  ∀ i z,zs[i]? = some z → ∃ g o,a = some ⟨g,o,none⟩ ∧ w.cell? ⟨g,o + i,none⟩ = some (.int .i64 z)

theorem IntsAt.keeps {S:Nat → Prop} {w w':World} {lo hi:Nat} {v:Value} {zs:List Int} (h:IntsAt w lo hi v zs) (k:Keeps S w w') (hS:∀ b,lo ≤ b → b < hi → ¬ S b):IntsAt w' lo hi v zs:=by
 obtain ⟨a,cap,h1,h2,h3,h4,h5,h6⟩:=h
 refine ⟨a,cap,h1,h2,h3,h4,h5,fun i z hz => ?_⟩
 obtain ⟨g,o,rfl,hc⟩:=h6 i z hz
 obtain ⟨b1,b2⟩:=h5 _ rfl
 exact ⟨g,o,rfl,by rw [k.cell (p:=⟨g,o + i,none⟩) (World.block_lt_of_cell? _ _ hc) (hS _ b1 b2)]; exact hc⟩
theorem IntsAt.mono {w:World} {lo hi lo' hi':Nat} {v:Value} {zs:List Int} (h:IntsAt w lo hi v zs) (h1:lo' ≤ lo) (h2:hi ≤ hi'):IntsAt w lo' hi' v zs:=by
 obtain ⟨a,cap,q1,q2,q3,q4,q5,q6⟩:=h
 exact ⟨a,cap,q1,q2,q3,q4,fun x hx => ⟨Nat.le_trans h1 (q5 x hx).1,Nat.lt_of_lt_of_le (q5 x hx).2 h2⟩,q6⟩
theorem IntsAt.wf {w:World} {lo hi:Nat} {v:Value} {zs:List Int} (h:IntsAt w lo hi v zs):∀ z ∈ zs,(Lit.int .i64 z).wf = true:=by
 obtain ⟨a,cap,_,_,_,h4,_⟩:=h
 exact h4
theorem IntsAt.nil (w:World) (lo hi:Nat):IntsAt w lo hi (.slice none 0 0) []:=⟨none,0,rfl,Nat.le_refl _,by omega,by simp,by simp,by simp⟩
/-! ### structs by value, their cells behind a name -/
section
variable {P:Program}

theorem foldl_set (arr:List Value):∀ (pre suf:List Value) (off:Nat),off = pre.length → arr.length ≤ suf.length →
  (arr.zipIdx).foldl (fun (cs:Array Value) (p:Value × Nat) => cs.setIfInBounds (off + p.2) p.1) (pre ++ suf).toArray = (pre ++ arr ++ suf.drop arr.length).toArray:=by
 suffices H:∀ (arr:List Value) (n:Nat) (pre suf:List Value) (off:Nat),off + n = pre.length → arr.length ≤ suf.length →
   (arr.zipIdx n).foldl (fun (cs:Array Value) (p:Value × Nat) => cs.setIfInBounds (off + p.2) p.1) (pre ++ suf).toArray = (pre ++ arr ++ suf.drop arr.length).toArray by
  intro pre suf off h1 h2
  exact H arr 0 pre suf off (by omega) h2
 intro arr
 induction arr with
 | nil => intro n pre suf off h1 h2; simp
 | cons v r ih =>
  intro n pre suf off h1 h2
  cases suf with
  | nil => simp at h2
  | cons s suf =>
   rw [List.zipIdx_cons,List.foldl_cons]
   have e:((pre ++ s :: suf).toArray).setIfInBounds (off + n) v = ((pre ++ [v]) ++ suf).toArray:=by
    simp only [List.setIfInBounds_toArray]
    rw [List.set_append_right _ _ (by omega),h1]
    simp
   rw [e,ih (n + 1) (pre ++ [v]) suf off (by simp; omega) (by simpa using h2)]
   simp

theorem fill_cons (place:Nat → Option (Nat × Nat)) (cells:Array Value) (i off size:Nat) (v:Value) (rest:List (Nat × Value)) (hp:place i = some (off,size)) (hs:v.cells.size = size) (hb:off + size ≤ cells.size) :
  Instr.fill place cells ((i,v) :: rest) = Instr.fill place (v.cells.zipIdx.foldl (fun (cs:Array Value) (p:Value × Nat) => cs.setIfInBounds (off + p.2) p.1) cells) rest:=by
 have e:¬ (size < size ∨ cells.size < off + size):=by omega
 simp [Instr.fill,hp,hs]
 omega

end
end
section
open Go.RowKit

section
variable {P:Program}

theorem run_append_own2 (w:World) (base:Nat) (t ty e:TypeId) (i:TypeInfo) (z:Value) (size bytes:Nat) (ht:P.underlying t = some (.slice e)) (hi:P.info? e = some i) (hz:i.zero = some z)
  (hsize:i.size = size) (hby:i.bytes = bytes) (hzs:z.cells.size = size) (hsz:0 < size)
  (v:Value) (n:Nat) (xs:List Value) (hown:w.ownsRow base e size v n xs)
  (a:Addr) (m c:Nat) (news:List Value) (hl:news.length = m * size) (hnews:∀ j u,news[j]? = some u → w.cell? (a.add j) = some u) (h1:∀ u ∈ news,u.oneCell' = true)
  (h0:0 < m) (h63:n + m ≤ maxLen) (hbytes:(n + m) * bytes ≤ 140737488355328) (hbase:base ≤ w.heap.size) :
  ∃ v' w',(Builtin.append_ #[t,t] ty #[v,.slice (some a) m c]).run P w = .ok v' w' ∧ w'.ownsRow base e size v' (n + m) (xs ++ news) ∧ w.grownBy w' v.ownBlock ∧ (v'.ownBlock = v.ownBlock ∨ v'.ownBlock = some w.heap.size) ∧ v.ownBlock ≠ some w.heap.size:=by
 obtain ⟨v',w',hrun,ho,hg,_⟩:=run_append_own (P:=P) w base t ty e i z size bytes ht hi hz hsize hby hzs hsz v n xs hown a m c news hl hnews h1 h63 hbytes hbase
 have hm:((n + m:Nat):Int) ≤ 9223372036854775807:=by simp only [maxLen] at h63; omega
 have hne:v.ownBlock ≠ some w.heap.size:=fun h => by have:=(hown.lt _ h).2; omega
 refine ⟨v',w',hrun,ho,hg,?_,hne⟩
 rcases hown.2 with ⟨rfl,rfl⟩ | ⟨g,cap,cur,rfl,hbg,hgg,hnc,hcm,hcs,htake⟩
 ·have hr:=run_append_nil (P:=P) w t ty e i z ht hi hz a m c news (by rw [hsize]; exact hl) hnews h0 (by omega) (by rw [hby]; have hb:=hbytes; simp only [Nat.zero_add] at hb; omega)
  rw [hrun] at hr
  injection hr with e1 e2
  subst e1
  right; rfl
 ·by_cases hroom:n + m ≤ cap
  ·have hfit:n * i.size + news.length ≤ cur.size:=by rw [hl,hcs,hsize,← Nat.add_mul]; exact Nat.mul_le_mul_right _ hroom
   have hr:=run_append_room (P:=P) w t ty e i ht hi g n cap cur hgg a m c news (by rw [hsize]; exact hl) hnews h1 hroom hfit
   rw [hrun] at hr
   injection hr with e1 e2
   subst e1
   left; rfl
  ·have holds:∀ j u,xs[j]? = some u → w.cell? ((⟨g,0,none⟩:Addr).add j) = some u:=hown.cells (g:=g) rfl
   have hr:=run_append_grow (P:=P) w t ty e i z ht hi hz ⟨g,0,none⟩ n cap xs (by rw [hsize]; exact hown.1) holds a m c news (by rw [hsize]; exact hl) hnews (by omega) hm (growslice_fits (by omega) (by rw [hby]; exact hbytes))
   rw [hrun] at hr
   injection hr with e1 e2
   subst e1
   right; rfl

end

def ArgInts (w:World) (v:Value) (zs:List Int):Prop :=
 ∃ a cap,v = .slice a zs.length cap ∧ zs.length ≤ cap ∧ cap ≤ 9223372036854775807 ∧ (∀ z ∈ zs,(Lit.int .i64 z).wf = true) ∧ ∀ i z,zs[i]? = some z → ∃ g o,a = some ⟨g,o,none⟩ ∧ w.cell? ⟨g,o + i,none⟩ = some (.int .i64 z)
theorem ArgInts.of {w:World} {lo hi:Nat} {v:Value} {zs:List Int} (h:IntsAt w lo hi v zs):ArgInts w v zs:=by
 obtain ⟨a,cap,h1,h2,h3,h4,_,h6⟩:=h
 exact ⟨a,cap,h1,h2,h3,h4,h6⟩
theorem ArgInts.below {w w':World} {v:Value} {zs:List Int} (h:ArgInts w v zs) (hb:Below w.heap.size w w'):ArgInts w' v zs:=by
 obtain ⟨a,cap,h1,h2,h3,h4,h6⟩:=h
 refine ⟨a,cap,h1,h2,h3,h4,fun i z hz => ?_⟩
 obtain ⟨g,o,e,hc⟩:=h6 i z hz
 exact ⟨g,o,e,by rw [hb.cell (p:=⟨g,o + i,none⟩) (World.block_lt_of_cell? _ _ hc)]; exact hc⟩
theorem ArgInts.row {w:World} {a:Option Addr} {len cap:Nat} {zs:List Int}
  (h:(a = none ∧ len = 0 ∧ cap = 0 ∧ zs = []) ∨ ∃ x,a = some x ∧ len ≤ cap ∧ cap ≤ maxLen ∧ zs.length = cap ∧ (∀ i,i < zs.length → w.cell? (x.add i) = some (.int .i64 (zs.getD i 0))) ∧ ∀ n ∈ zs,(Lit.int .i64 n).wf = true) :
  ArgInts w (.slice a len cap) (zs.take len):=by
 rcases h with ⟨rfl,rfl,rfl,rfl⟩ | ⟨x,rfl,h1,h2,h3,h4,h5⟩
 ·exact ⟨none,0,rfl,Nat.le_refl _,by omega,by simp,by simp⟩
 ·have hl:(zs.take len).length = len:=by simp; omega
  refine ⟨some x,cap,by rw [hl],by omega,by unfold maxLen at h2; omega,fun z hz => h5 z (List.mem_of_mem_take hz),fun i z hz => ?_⟩
  rw [List.getElem?_take] at hz
  split at hz
  case isFalse => cases hz
  case isTrue hlt =>
   have hsp:x.spot = none:=by
    have h0:=h4 0 (by omega)
    unfold Addr.add at h0
    simp only [if_pos] at h0
    cases hx:x.spot with
    | none => rfl
    | some q =>
     unfold World.cell? at h0
     rw [hx] at h0
     split at h0 <;> simp at h0
   obtain ⟨b,o,sp⟩:=x
   simp only at hsp
   subst hsp
   have hi:i < zs.length:=(List.getElem?_eq_some_iff.1 hz).1
   refine ⟨b,o,rfl,?_⟩
   have:=h4 i hi
   have hadd:(⟨b,o,none⟩:Addr).add i = ⟨b,o + i,none⟩:=by unfold Addr.add; split <;> simp_all
   rw [hadd,List.getD_eq_getElem?_getD,hz] at this
   simpa using this
end
end Go.Proofs.YtpehhhbmobmedaaGreatDoor
