/- A machine of values over the model, first part: ghost values, what they say of memory, and that this stays so while nothing of it is written. -/
import Derived.Test.YtpehhhbmobmedaaGreatDoorAppend
import Derived.CallsIn
import Derived.RangeFuncSeq
import Derived.RangeFuncNested
import Derived.OrdersIn
import Derived.LoopIn
import Derived.LoopNIn
import Derived.TacticsInMore
namespace Go.Proofs.YtpehhhbmobmedaaGreatDoor
set_option linter.unusedVariables false
set_option linter.unusedSimpArgs false
set_option linter.unusedSectionVars false
section
open Go.RowKit

inductive G where
 | lit (v:Value)
 | agg (l:List G)
 | tup (l:List G)
 | ptr (l:List G) (o:Nat)
 | sl (l:List G) (n:Nat)
 | clo (fn:Fn) (first cap:List G)
 | ifc (t:TypeId) (g:G)
 | ref (i o:Nat)
 | rsl (i o n:Nat)
 | mref (i:Nat)
 | yld (i:Nat)
 | junk
 deriving Inhabited

inductive IV (S:Nat → Prop) (w:World):G → Value → Prop
 | lit (v:Value):IV S w (.lit v) v
 | agg (l:List G) (us:Array Value) (hl:us.size = l.length) (h1:∀ (i:Nat) (u:Value),us[i]? = some u → u.oneCell' = true) (h:∀ (i:Nat) (g:G) (u:Value),l[i]? = some g → us[i]? = some u → IV S w g u):IV S w (.agg l) (.agg us)
 | tup (l:List G) (us:Array Value) (hl:us.size = l.length) (h:∀ (i:Nat) (g:G) (u:Value),l[i]? = some g → us[i]? = some u → IV S w g u):IV S w (.tup l) (.tuple us)
 | ptr (l:List G) (o b off:Nat) (us:Nat → Value) (hs:¬ S b) (hb:b < w.heap.size) (hc:∀ i,i < l.length → w.cell? ⟨b,off + i,none⟩ = some (us i)) (h1:∀ i,i < l.length → (us i).oneCell' = true)
   (h:∀ (i:Nat) (g:G),l[i]? = some g → IV S w g (us i)):IV S w (.ptr l o) (.pointer (some ⟨b,off + o,none⟩))
 | sl (l:List G) (n:Nat) (a:Option Addr) (cap:Nat) (us:Nat → Value) (hn:n ≤ cap) (hm:cap ≤ maxLen) (ha:∀ i,i < l.length → ∃ b off,a = some ⟨b,off,none⟩ ∧ ¬ S b ∧ b < w.heap.size ∧ w.cell? ⟨b,off + i,none⟩ = some (us i))
   (h1:∀ i,i < l.length → (us i).oneCell' = true) (h:∀ (i:Nat) (g:G),l[i]? = some g → IV S w g (us i)):IV S w (.sl l n) (.slice a n cap)
 | clo (fn:Fn) (first cap:List G) (fs cs:Array Value) (hf:fs.size = first.length) (hc:cs.size = cap.length) (h:∀ (i:Nat) (g:G) (u:Value),first[i]? = some g → fs[i]? = some u → IV S w g u) (h':∀ (i:Nat) (g:G) (u:Value),cap[i]? = some g → cs[i]? = some u → IV S w g u) :
   IV S w (.clo fn first cap) (.func fn fs cs)
 | ifc (t:TypeId) (g:G) (v:Value) (h:IV S w g v):IV S w (.ifc t g) (.iface t v)

structure CellKeeps (S:Nat → Prop) (w w':World):Prop where
 size:w.heap.size ≤ w'.heap.size
 cell:∀ {b o u},b < w.heap.size → ¬ S b → w.cell? ⟨b,o,none⟩ = some u → w'.cell? ⟨b,o,none⟩ = some u
theorem CellKeeps.lt {S:Nat → Prop} {w w':World} (h:CellKeeps S w w') {b:Nat} (hb:b < w.heap.size):b < w'.heap.size:=Nat.lt_of_lt_of_le hb h.size
theorem Keeps.cells {S:Nat → Prop} {w w':World} (h:Keeps S w w'):CellKeeps S w w':=⟨h.size,fun {b o u} hb hs hc => (h.cell (p:=⟨b,o,none⟩) hb hs).trans hc⟩
theorem IV.stepC {S S':Nat → Prop} {w w':World} {g:G} {v:Value} (h:IV S w g v) (hS:∀ b,b < w.heap.size → S' b → S b) (hk:CellKeeps S w w'):IV S' w' g v:=by
 induction h with
 | lit v => exact .lit v
 | agg l us hl h1 h ih => exact .agg l us hl h1 ih
 | tup l us hl h ih => exact .tup l us hl ih
 | ptr l o b off us hs hb hc h1 h ih => exact .ptr l o b off us (fun x => hs (hS b hb x)) (hk.lt hb) (fun i hi => hk.cell hb hs (hc i hi)) h1 ih
 | sl l n a cap us hn hm ha h1 h ih =>
  refine .sl l n a cap us hn hm (fun i hi => ?_) h1 ih
  obtain ⟨b,off,e,hs,hb,hc⟩:=ha i hi
  exact ⟨b,off,e,fun x => hs (hS b hb x),hk.lt hb,hk.cell hb hs hc⟩
 | clo fn first cap fs cs hf hc h h' ih ih' => exact .clo fn first cap fs cs hf hc ih ih'
 | ifc t g v h ih => exact .ifc t g v ih
theorem IV.step {S S':Nat → Prop} {w w':World} {g:G} {v:Value} (h:IV S w g v) (hS:∀ b,b < w.heap.size → S' b → S b) (hk:Keeps S w w'):IV S' w' g v:=h.stepC hS hk.cells
theorem IV.sub {S S':Nat → Prop} {w:World} {g:G} {v:Value} (h:IV S w g v) (hS:∀ b,b < w.heap.size → S' b → S b):IV S' w g v:=h.step hS (Keeps.refl _ _)
theorem IV.keep {S:Nat → Prop} {w w':World} {g:G} {v:Value} (h:IV S w g v) (hk:Keeps S w w'):IV S w' g v:=h.step (fun _ _ x => x) hk

abbrev Bm:=Nat → Option (Option (Nat × Nat))

inductive RV (β:Bm) (S:Nat → Prop) (w:World):G → Value → Prop
 | imm (g:G) (v:Value) (h:IV S w g v):RV β S w g v
 | agg (l:List G) (us:Array Value) (hl:us.size = l.length) (h1:∀ (i:Nat) (u:Value),us[i]? = some u → u.oneCell' = true) (h:∀ (i:Nat) (g:G) (u:Value),l[i]? = some g → us[i]? = some u → RV β S w g u):RV β S w (.agg l) (.agg us)
 | tup (l:List G) (us:Array Value) (hl:us.size = l.length) (h:∀ (i:Nat) (g:G) (u:Value),l[i]? = some g → us[i]? = some u → RV β S w g u):RV β S w (.tup l) (.tuple us)
 | clo (fn:Fn) (first cap:List G) (fs cs:Array Value) (hf:fs.size = first.length) (hc:cs.size = cap.length) (h:∀ (i:Nat) (g:G) (u:Value),first[i]? = some g → fs[i]? = some u → RV β S w g u) (h':∀ (i:Nat) (g:G) (u:Value),cap[i]? = some g → cs[i]? = some u → RV β S w g u) :
   RV β S w (.clo fn first cap) (.func fn fs cs)
 | ifc (t:TypeId) (g:G) (v:Value) (h:RV β S w g v):RV β S w (.ifc t g) (.iface t v)
 | ref (i o b C:Nat) (h:β i = some (some (b,C))):RV β S w (.ref i o) (.pointer (some ⟨b,o,none⟩))
 | rsl0 (i o:Nat) (h:β i ≠ none):RV β S w (.rsl i o 0) (.slice none 0 0)
 | rsl (i o n b C o' cap:Nat) (h:β i = some (some (b,C))) (hn:n ≤ cap) (hm:cap ≤ maxLen) (ho:cap ≠ 0 → o' = o) (hC:o = 0 → cap = C ∧ o' = 0):RV β S w (.rsl i o n) (.slice (some ⟨b,o',none⟩) n cap)
 | mref (i b C:Nat) (h:β i = some (some (b,C))):RV β S w (.mref i) (.map (some b))
 | yld (i b C:Nat) (h:β i = some (some (b,C))):RV β S w (.yld i) (.func (.yield b) #[] #[])
 | junk (v:Value):RV β S w .junk v

theorem RV.stepW {β β':Bm} {S S':Nat → Prop} {w w':World} {g:G} {v:Value} (h:RV β S w g v) (hβ:∀ i x,β i = some (some x) → β' i = some (some x)) (hn:∀ i,β i ≠ none → β' i ≠ none) (hS:∀ b,b < w.heap.size → S' b → S b) (hk:CellKeeps S w w'):RV β' S' w' g v:=by
 induction h with
 | imm g v h => exact .imm g v (h.stepC hS hk)
 | agg l us hl h1 h ih => exact .agg l us hl h1 ih
 | tup l us hl h ih => exact .tup l us hl ih
 | clo fn first cap fs cs hf hc h h' ih ih' => exact .clo fn first cap fs cs hf hc ih ih'
 | ifc t g v h ih => exact .ifc t g v ih
 | ref i o b C h => exact .ref i o b C (hβ _ _ h)
 | rsl0 i o h => exact .rsl0 i o (hn _ h)
 | rsl i o n b C o' cap h hn hm ho hC => exact .rsl i o n b C o' cap (hβ _ _ h) hn hm ho hC
 | mref i b C h => exact .mref i b C (hβ _ _ h)
 | yld i b C h => exact .yld i b C (hβ _ _ h)
 | junk v => exact .junk v
theorem RV.stepC {β β':Bm} {S S':Nat → Prop} {w w':World} {g:G} {v:Value} (h:RV β S w g v) (hβ:∀ i x,β i = some x → β' i = some x) (hS:∀ b,b < w.heap.size → S' b → S b) (hk:CellKeeps S w w'):RV β' S' w' g v :=
 h.stepW (fun i x hx => hβ i _ hx) (fun i hx e => by
  cases hb:β i with
  | none => exact hx hb
  | some y => rw [hβ i y hb] at e; cases e) hS hk
theorem RV.step {β β':Bm} {S S':Nat → Prop} {w w':World} {g:G} {v:Value} (h:RV β S w g v) (hβ:∀ i x,β i = some x → β' i = some x) (hS:∀ b,b < w.heap.size → S' b → S b) (hk:Keeps S w w'):RV β' S' w' g v:=h.stepC hβ hS hk.cells

abbrev Fr:=List (Nat × G)
inductive Xob where
 | map (es:List (Value × G × Nat)) (clock:Nat)
 | iter (m:Option Nat) (since:Nat) (seen:List Nat) (last:Nat)
 | loop (s:LoopState) (pe:Option Code) (n:Nat) (fr:Fr) (ps:Array Tmp) (assign body:Code)
 | resv
 deriving Inhabited
structure Ob where
 t:TypeId
 l:List G
 x:Option Xob
 deriving Inhabited

abbrev Sto:=List (Nat × Option Ob)
def fget:Fr → Nat → G
 | [],_ => .junk
 | (d,g) :: r,i => bif Nat.beq d i then g else fget r i
def sget:Sto → Nat → Option Ob
 | [],_ => none
 | (d,o) :: r,i => bif Nat.beq d i then o else sget r i

structure St where
 n:Nat
 gl:List (Nat × List G)
 fr:Fr
 σ:Sto
 c:Nat
 p:Nat
 r:Bool

def tsz (P:Program) (t:TypeId):Nat:=((P.info? t).map (·.size)).getD 0

def Av (S:Nat → Prop) (β:Bm) (σ:Sto) (b:Nat):Prop:=S b ∨ ∃ i ob C,sget σ i = some ob ∧ β i = some (some (b,C))

def XO (β:Bm) (S:Nat → Prop) (w:World):Xob → Obj → Prop
 | .map es clock,o => ∃ ents:Array MapEntry,o = .map ents clock ∧ ents.size = es.length ∧ ∀ (j:Nat) (k:Value) (g:G) (n:Nat),es[j]? = some (k,g,n) → ∃ e,ents[j]? = some e ∧ e.key = k ∧ e.born = n ∧ RV β S w g e.val
 | .iter m since seen last,o => ∃ mb,o = .mapIter mb since seen.toArray last ∧ ((m = none ∧ mb = none) ∨ ∃ i b C,m = some i ∧ mb = some b ∧ β i = some (some (b,C)))
 | .resv,_ => False
 | .loop s pe n fr ps as bd,o => ∃ fn tmps D,o = .loop { state:=s,pending:=pe,fn:=fn,tmps:=tmps,params:=ps,assign:=as,body:=bd,defers:=D } ∧ tmps.size = n ∧ ∀ j,RV β S w (fget fr j) (tmps.getD j undef)
def RO (P:Program) (β:Bm) (S:Nat → Prop) (w:World) (i:Nat) (ob:Ob):Prop :=
 (β i = some none ∧ ob.l = [] ∧ (ob.x = none ∨ ob.x = some .resv)) ∨
 (∃ b x o,ob.x = some x ∧ ob.l = [] ∧ β i = some (some (b,0)) ∧ w.heap[b]? = some o ∧ XO β S w x o) ∨
 ∃ b C cur,ob.x = none ∧ β i = some (some (b,C)) ∧ w.heap[b]? = some (.cells cur ob.t (0,0)) ∧ cur.size = C * tsz P ob.t ∧ C ≤ maxLen ∧ ob.l.length ≤ cur.size ∧ ∀ (j:Nat) (g:G),ob.l[j]? = some g → ∃ u,cur[j]? = some u ∧ u.oneCell' = true ∧ RV β S w g u

structure Cx where
 w0:World
 B0:Nat → Prop
 S0:Nat → Prop
 pin:Nat → Option (Option (Nat × Nat))
 F:Fence
 nn:Nat

structure Loose (F:Fence):Prop where
 fn:∀ f,F.fn f
 depth:F.depth = none
 alive:F.alive = false
def markOf (D:Nat):Deferred:={ target:=.collected D,args:=#[] }
def Marks (w0:World) (a:Act) (w:World):Prop:=∃ ds:List Nat,a.defers = ds.map markOf ∧ ds.Nodup ∧ ∀ D ∈ ds,w0.heap.size ≤ D ∧ w.heap[D]? = some (.deferred (some []))
theorem Marks.nil {w0 w:World} {a:Act} (h:a.defers = []):Marks w0 a w:=⟨[],h,List.nodup_nil,fun _ h => by cases h⟩
theorem Marks.keep {w0 w w':World} {a:Act} {S:Nat → Prop} (h:Marks w0 a w) (hk:Keeps S w w') (hS:∀ D,w.heap[D]? = some (.deferred (some [])) → ¬ S D):Marks w0 a w':=by
 obtain ⟨ds,h1,h2,h3⟩:=h
 refine ⟨ds,h1,h2,fun D hD => ?_⟩
 obtain ⟨h4,h5⟩:=h3 D hD
 exact ⟨h4,(hk.block D (Array.getElem?_eq_some_iff.1 h5).1 (hS D h5)).trans h5⟩

structure RelB (P:Program) (cx:Cx) (st:St) (a:Act) (w:World) (β:Bm):Prop where
 size:a.tmps.size = st.n
 defers:Marks cx.w0 a w
 loose:Loose cx.F
 rnd:st.r = false → cx.F.round = none
 fr:∀ i,RV β (Av cx.S0 β st.σ) w (fget st.fr i) (a.tmps.getD i undef)
 ob:∀ i o,sget st.σ i = some o → RO P β (Av cx.S0 β st.σ) w i o
 inj:∀ i j o o' b C D,sget st.σ i = some o → sget st.σ j = some o' → β i = some (some (b,C)) → β j = some (some (b,D)) → i = j
 own:∀ i o b C,sget st.σ i = some o → β i = some (some (b,C)) → cx.B0 b ∨ cx.w0.heap.size ≤ b
 sep:∀ i o b C,sget st.σ i = some o → β i = some (some (b,C)) → ¬ cx.S0 b
 fresh:∀ i,st.c ≤ i → β i = none
 glob:∀ g l,st.gl.lookup g = some l → IV (Av cx.S0 β st.σ) w (.ptr l 0) (.pointer (some ⟨g,0,none⟩))
 keep:Keeps cx.B0 cx.w0 w
 old:∀ b,cx.S0 b → b < cx.w0.heap.size
 pin:∀ i x,cx.pin i = some x → i < st.p ∧ β i = some x

def Rel (P:Program) (cx:Cx) (st:St) (a:Act) (w:World):Prop:=∃ β,RelB P cx st a w β

theorem XO.stepC {β β':Bm} {S S':Nat → Prop} {w w':World} {x:Xob} {o:Obj} (h:XO β S w x o) (hβ:∀ i x,β i = some x → β' i = some x) (hS:∀ b,b < w.heap.size → S' b → S b) (hk:CellKeeps S w w'):XO β' S' w' x o:=by
 cases x with
 | map es clock =>
  obtain ⟨ents,h1,h2,h3⟩:=h
  refine ⟨ents,h1,h2,fun j k g n hj => ?_⟩
  obtain ⟨e,e1,e2,e3,e4⟩:=h3 j k g n hj
  exact ⟨e,e1,e2,e3,e4.stepC hβ hS hk⟩
 | iter m since seen last =>
  obtain ⟨mb,h1,h2⟩:=h
  refine ⟨mb,h1,?_⟩
  rcases h2 with h2 | ⟨i,b,C,h3,h4,h5⟩
  ·exact .inl h2
  ·exact .inr ⟨i,b,C,h3,h4,hβ _ _ h5⟩
 | loop s pe n fr ps as bd =>
  obtain ⟨fn,tmps,D,h1,h2,h3⟩:=h
  exact ⟨fn,tmps,D,h1,h2,fun j => (h3 j).stepC hβ hS hk⟩
 | resv => exact h.elim
theorem XO.stepW {β β':Bm} {S S':Nat → Prop} {w w':World} {x:Xob} {o:Obj} (h:XO β S w x o) (hβ:∀ i x,β i = some (some x) → β' i = some (some x)) (hn:∀ i,β i ≠ none → β' i ≠ none) (hS:∀ b,b < w.heap.size → S' b → S b) (hk:CellKeeps S w w'):XO β' S' w' x o:=by
 cases x with
 | map es clock =>
  obtain ⟨ents,h1,h2,h3⟩:=h
  refine ⟨ents,h1,h2,fun j k g n hj => ?_⟩
  obtain ⟨e,e1,e2,e3,e4⟩:=h3 j k g n hj
  exact ⟨e,e1,e2,e3,e4.stepW hβ hn hS hk⟩
 | iter m since seen last =>
  obtain ⟨mb,h1,h2⟩:=h
  refine ⟨mb,h1,?_⟩
  rcases h2 with h2 | ⟨i,b,C,h3,h4,h5⟩
  ·exact .inl h2
  ·exact .inr ⟨i,b,C,h3,h4,hβ _ _ h5⟩
 | loop s pe n fr ps as bd =>
  obtain ⟨fn,tmps,D,h1,h2,h3⟩:=h
  exact ⟨fn,tmps,D,h1,h2,fun j => (h3 j).stepW hβ hn hS hk⟩
 | resv => exact h.elim
theorem XO.step {β β':Bm} {S S':Nat → Prop} {w w':World} {x:Xob} {o:Obj} (h:XO β S w x o) (hβ:∀ i x,β i = some x → β' i = some x) (hS:∀ b,b < w.heap.size → S' b → S b) (hk:Keeps S w w'):XO β' S' w' x o:=h.stepC hβ hS hk.cells
theorem XO.not_marks {β:Bm} {S:Nat → Prop} {w:World} {x:Xob} {o:Obj} (h:XO β S w x o) (l:Option (List Deferred)):o ≠ .deferred l:=by
 cases x with
 | map es clock => obtain ⟨ents,rfl,_⟩:=h; intro e; cases e
 | iter m since seen last => obtain ⟨mb,rfl,_⟩:=h; intro e; cases e
 | loop s pe n fr ps as bd => obtain ⟨fn,tmps,D,rfl,_⟩:=h; intro e; cases e
 | resv => exact h.elim
theorem RO.stepC {P:Program} {β β':Bm} {S S':Nat → Prop} {w w':World} {i:Nat} {ob:Ob} (h:RO P β S w i ob) (hβ:∀ i x,β i = some x → β' i = some x) (hS:∀ b,b < w.heap.size → S' b → S b) (hk:CellKeeps S w w')
  (hb:∀ b C,β i = some (some (b,C)) → w'.heap[b]? = w.heap[b]?):RO P β' S' w' i ob:=by
 rcases h with ⟨h1,h2⟩ | ⟨b,x,o,h1,h2,h3,h4,h5⟩ | ⟨b,C,cur,hx,h1,h2,h3,h4,h5,h6⟩
 ·exact .inl ⟨hβ _ _ h1,h2⟩
 ·exact .inr (.inl ⟨b,x,o,h1,h2,hβ _ _ h3,(hb b 0 h3).trans h4,h5.stepC hβ hS hk⟩)
 ·refine .inr (.inr ⟨b,C,cur,hx,hβ _ _ h1,(hb b C h1).trans h2,h3,h4,h5,fun j g hg => ?_⟩)
  obtain ⟨u,hu,h1',hr⟩:=h6 j g hg
  exact ⟨u,hu,h1',hr.stepC hβ hS hk⟩
theorem RO.stepW {P:Program} {β β':Bm} {S S':Nat → Prop} {w w':World} {i:Nat} {ob:Ob} (h:RO P β S w i ob) (hβ:∀ i x,β i = some (some x) → β' i = some (some x)) (hn:∀ i,β i ≠ none → β' i ≠ none) (hi:β' i = β i) (hS:∀ b,b < w.heap.size → S' b → S b) (hk:CellKeeps S w w')
  (hb:∀ b C,β i = some (some (b,C)) → w'.heap[b]? = w.heap[b]?):RO P β' S' w' i ob:=by
 rcases h with ⟨h1,h2⟩ | ⟨b,x,o,h1,h2,h3,h4,h5⟩ | ⟨b,C,cur,hx,h1,h2,h3,h4,h5,h6⟩
 ·exact .inl ⟨hi.trans h1,h2⟩
 ·exact .inr (.inl ⟨b,x,o,h1,h2,hβ _ _ h3,(hb b 0 h3).trans h4,h5.stepW hβ hn hS hk⟩)
 ·refine .inr (.inr ⟨b,C,cur,hx,hβ _ _ h1,(hb b C h1).trans h2,h3,h4,h5,fun j g hg => ?_⟩)
  obtain ⟨u,hu,h1',hr⟩:=h6 j g hg
  exact ⟨u,hu,h1',hr.stepW hβ hn hS hk⟩
theorem RO.step {P:Program} {β β':Bm} {S S':Nat → Prop} {w w':World} {i:Nat} {ob:Ob} (h:RO P β S w i ob) (hβ:∀ i x,β i = some x → β' i = some x) (hS:∀ b,b < w.heap.size → S' b → S b) (hk:Keeps S w w')
  (hb:∀ b C,β i = some (some (b,C)) → w'.heap[b]? = w.heap[b]?):RO P β' S' w' i ob:=h.stepC hβ hS hk.cells hb
theorem RO.at {P:Program} {β:Bm} {S:Nat → Prop} {w:World} {i:Nat} {ob:Ob} (h:RO P β S w i ob):β i = some none ∨ ∃ b C o,β i = some (some (b,C)) ∧ w.heap[b]? = some o ∧ ∀ l,o ≠ .deferred l:=by
 rcases h with ⟨h1,h2⟩ | ⟨b,x,o,h1,h2,h3,h4,h5⟩ | ⟨b,C,cur,hx,h1,h2,h3,h4,h5,h6⟩
 ·exact .inl h1
 ·exact .inr ⟨b,0,o,h3,h4,h5.not_marks⟩
 ·exact .inr ⟨b,C,_,h1,h2,fun l e => by cases e⟩

theorem sget_cons (i j:Nat) (o:Option Ob) (σ:Sto):sget ((j,o) :: σ) i = if j = i then o else sget σ i:=by
 show (bif Nat.beq j i then o else sget σ i) = _
 by_cases h:j = i
 ·subst h; simp
 ·rw [if_neg h]
  cases hb:Nat.beq j i with
  | true => exact absurd (Nat.eq_of_beq_eq_true hb) h
  | false => rfl
theorem fget_cons (i j:Nat) (g:G) (f:Fr):fget ((j,g) :: f) i = if j = i then g else fget f i:=by
 show (bif Nat.beq j i then g else fget f i) = _
 by_cases h:j = i
 ·subst h; simp
 ·rw [if_neg h]
  cases hb:Nat.beq j i with
  | true => exact absurd (Nat.eq_of_beq_eq_true hb) h
  | false => rfl

def St.put (st:St) (d:Option Tmp) (g:G):St :=
 match d with
 | some d => { st with fr:=(d,g) :: st.fr }
 | none => st
theorem tmps_put (a:Act) (d:Nat) (v:Value) (h:d < a.tmps.size) (i:Nat):(a.put (some d) v).tmps.getD i undef = if d = i then v else a.tmps.getD i undef:=by
 simp only [Act.put,Array.getD_eq_getD_getElem?,Array.getElem?_setIfInBounds]
 split
 ·subst_vars; simp
 ·rfl
theorem RelB.put {P:Program} {cx:Cx} {st:St} {a:Act} {w:World} {β:Bm} (h:RelB P cx st a w β) (d:Option Tmp) (hd:∀ x,d = some x → x < st.n) {g:G} {v:Value} (hv:RV β (Av cx.S0 β st.σ) w g v):RelB P cx (st.put d g) (a.put d v) w β:=by
 cases d with
 | none => exact h
 | some d =>
  have hd':d < a.tmps.size:=by rw [h.size]; exact hd d rfl
  refine { h with size:=by simp [Act.put,St.put,h.size],fr:=fun i => ?_ }
  rw [tmps_put a d v hd']
  show RV β _ w (fget ((d,g) :: st.fr) i) _
  rw [fget_cons]
  split
  ·exact hv
  ·exact h.fr i

theorem RelB.world {P:Program} {cx:Cx} {st:St} {a:Act} {w w':World} {β:Bm} (h:RelB P cx st a w β) (hk:Keeps (fun _ => False) w w'):RelB P cx st a w' β:=by
 have hk':Keeps (Av cx.S0 β st.σ) w w':=hk.mono fun _ _ x => x.elim
 exact { h with
  defers:=h.defers.keep hk (fun _ _ x => x)
  fr:=fun i => (h.fr i).step (fun _ _ x => x) (fun _ _ x => x) hk'
  ob:=fun i o ho => (h.ob i o ho).step (fun _ _ x => x) (fun _ _ x => x) hk' (fun b C hb => by
   rcases (h.ob i o ho).at with h1 | ⟨b',C',o',h1,h2,_⟩
   ·rw [h1] at hb; cases hb
   ·rw [h1] at hb; cases hb
    exact hk.block b (Array.getElem?_eq_some_iff.1 h2).1 (fun x => x))
  glob:=fun g l hl => (h.glob g l hl).keep hk'
  keep:=h.keep.trans (hk.mono fun _ _ x => x.elim) }

theorem RelB.lt {P:Program} {cx:Cx} {st:St} {a:Act} {w:World} {β:Bm} (h:RelB P cx st a w β) {i:Nat} {o:Ob} {b C:Nat} (ho:sget st.σ i = some o) (hb:β i = some (some (b,C))):b < w.heap.size:=by
 rcases (h.ob i o ho).at with h1 | ⟨b',C',o',h1,h2,_⟩
 ·rw [h1] at hb; cases hb
 ·rw [h1] at hb; cases hb
  exact (Array.getElem?_eq_some_iff.1 h2).1

theorem RelB.alloc {P:Program} {cx:Cx} {st:St} {a:Act} {w w':World} {β:Bm} (h:RelB P cx st a w β) (hk:Keeps (fun _ => False) w w') {b C:Nat} {cur:Array Value} {ob:Ob} (hb:w.heap.size ≤ b) (hcur:w'.heap[b]? = some (.cells cur ob.t (0,0))) (hs:cur.size = C * tsz P ob.t) (hC:C ≤ maxLen) (hl:ob.l.length ≤ cur.size)
  (hx0:ob.x = none) (hr:∀ (j:Nat) (g:G),ob.l[j]? = some g → ∃ u,cur[j]? = some u ∧ u.oneCell' = true ∧ RV β (Av cx.S0 β st.σ) w g u) {k:Nat} (hkc:st.c ≤ k):RelB P cx { st with σ:=(k,some ob) :: st.σ,c:=k + 1 } a w' (fun i => if i = k then some (some (b,C)) else β i):=by
 have hβ:∀ i x,β i = some x → (fun i => if i = k then some (some (b,C)) else β i) i = some x:=by
  intro i x hx
  have:i ≠ k:=fun e => by rw [e,h.fresh k hkc] at hx; cases hx
  simp [this,hx]
 have hSz:∀ b',cx.S0 b' → b' < w.heap.size:=fun b' hb' => h.keep.lt (h.old b' hb')
 have hS:∀ b',b' < w.heap.size → Av cx.S0 (fun i => if i = k then some (some (b,C)) else β i) ((k,some ob) :: st.σ) b' → Av cx.S0 β st.σ b':=by
  rintro b' hlt (hx | ⟨i,o,D,ho,hx⟩)
  ·exact .inl hx
  ·rw [sget_cons] at ho
   by_cases e:k = i
   ·subst e
    simp at hx
    omega
   ·rw [if_neg e] at ho
    have e':i ≠ k:=fun x => e x.symm
    simp only [e',if_false] at hx
    exact .inr ⟨i,o,D,ho,hx⟩
 have hk':Keeps (Av cx.S0 β st.σ) w w':=hk.mono fun _ _ x => x.elim
 exact {
  size:=h.size
  defers:=h.defers.keep hk (fun _ _ x => x)
  loose:=h.loose
  rnd:=h.rnd
  fr:=fun i => (h.fr i).step hβ hS hk'
  ob:=fun i o ho => by
   have ho':sget ((k,some ob) :: st.σ) i = some o:=ho
   rw [sget_cons] at ho'
   by_cases e:k = i
   ·subst e
    rw [if_pos rfl] at ho'
    cases ho'
    refine .inr (.inr ⟨b,C,cur,hx0,by simp,hcur,hs,hC,hl,fun j g hg => ?_⟩)
    obtain ⟨u,hu,h1,hr'⟩:=hr j g hg
    exact ⟨u,hu,h1,hr'.step hβ hS hk'⟩
   ·rw [if_neg e] at ho'
    exact (h.ob i o ho').step hβ hS hk' (fun b' D hb' => hk.block b' (h.lt ho' hb') (fun x => x))
  inj:=fun i j o o' b' D E hi hj hbi hbj => by
   have hi':sget ((k,some ob) :: st.σ) i = some o:=hi
   have hj':sget ((k,some ob) :: st.σ) j = some o':=hj
   rw [sget_cons] at hi' hj'
   by_cases ei:i = k <;> by_cases ej:j = k
   ·rw [ei,ej]
   ·simp only [ei,ej,if_true,if_false] at hbi hbj
    rw [if_neg (fun x => ej x.symm)] at hj'
    have:=h.lt hj' hbj
    simp at hbi
    omega
   ·simp only [ei,ej,if_true,if_false] at hbi hbj
    rw [if_neg (fun x => ei x.symm)] at hi'
    have:=h.lt hi' hbi
    simp at hbj
    omega
   ·simp only [ei,ej,if_false] at hbi hbj
    rw [if_neg (fun x => ei x.symm)] at hi'
    rw [if_neg (fun x => ej x.symm)] at hj'
    exact h.inj i j o o' b' D E hi' hj' hbi hbj
  own:=fun i o b' D hi hbi => by
   have hi':sget ((k,some ob) :: st.σ) i = some o:=hi
   rw [sget_cons] at hi'
   by_cases ei:i = k
   ·simp only [ei,if_true] at hbi
    simp at hbi
    have:=h.keep.size
    right
    omega
   ·simp only [ei,if_false] at hbi
    rw [if_neg (fun x => ei x.symm)] at hi'
    exact h.own i o b' D hi' hbi
  sep:=fun i o b' D hi hbi => by
   have hi':sget ((k,some ob) :: st.σ) i = some o:=hi
   rw [sget_cons] at hi'
   by_cases ei:i = k
   ·simp only [ei,if_true] at hbi
    simp at hbi
    intro hx
    have:=hSz b' hx
    omega
   ·simp only [ei,if_false] at hbi
    rw [if_neg (fun x => ei x.symm)] at hi'
    exact h.sep i o b' D hi' hbi
  fresh:=fun i hi => by
   have hi':k + 1 ≤ i:=hi
   have e:i ≠ k:=by omega
   simp only [e,if_false]
   exact h.fresh i (by omega)
  glob:=fun g l hl => (h.glob g l hl).step hS hk'
  keep:=h.keep.trans (hk.mono fun _ _ x => x.elim)
  old:=h.old
  pin:=fun i x hx => ⟨(h.pin i x hx).1,hβ i x (h.pin i x hx).2⟩ }
theorem RelB.allocX {P:Program} {cx:Cx} {st:St} {a:Act} {w w':World} {β:Bm} (h:RelB P cx st a w β) (hk:Keeps (fun _ => False) w w') {b:Nat} {ob:Ob} {x:Xob} {o0:Obj} (hb:w.heap.size ≤ b) (hcur:w'.heap[b]? = some o0) (hx0:ob.x = some x) (hl:ob.l = []) (hr:XO β (Av cx.S0 β st.σ) w x o0) {k:Nat} (hkc:st.c ≤ k):RelB P cx { st with σ:=(k,some ob) :: st.σ,c:=k + 1 } a w' (fun i => if i = k then some (some (b,0)) else β i):=by
 have hβ:∀ i x,β i = some x → (fun i => if i = k then some (some (b,0)) else β i) i = some x:=by
  intro i x hx
  have:i ≠ k:=fun e => by rw [e,h.fresh k hkc] at hx; cases hx
  simp [this,hx]
 have hSz:∀ b',cx.S0 b' → b' < w.heap.size:=fun b' hb' => h.keep.lt (h.old b' hb')
 have hS:∀ b',b' < w.heap.size → Av cx.S0 (fun i => if i = k then some (some (b,0)) else β i) ((k,some ob) :: st.σ) b' → Av cx.S0 β st.σ b':=by
  rintro b' hlt (hx | ⟨i,o,D,ho,hx⟩)
  ·exact .inl hx
  ·rw [sget_cons] at ho
   by_cases e:k = i
   ·subst e
    simp at hx
    omega
   ·rw [if_neg e] at ho
    have e':i ≠ k:=fun x => e x.symm
    simp only [e',if_false] at hx
    exact .inr ⟨i,o,D,ho,hx⟩
 have hk':Keeps (Av cx.S0 β st.σ) w w':=hk.mono fun _ _ x => x.elim
 exact {
  size:=h.size
  defers:=h.defers.keep hk (fun _ _ x => x)
  loose:=h.loose
  rnd:=h.rnd
  fr:=fun i => (h.fr i).step hβ hS hk'
  ob:=fun i o ho => by
   have ho':sget ((k,some ob) :: st.σ) i = some o:=ho
   rw [sget_cons] at ho'
   by_cases e:k = i
   ·subst e
    rw [if_pos rfl] at ho'
    cases ho'
    exact .inr (.inl ⟨b,x,o0,hx0,hl,by simp,hcur,hr.step hβ hS hk'⟩)
   ·rw [if_neg e] at ho'
    exact (h.ob i o ho').step hβ hS hk' (fun b' D hb' => hk.block b' (h.lt ho' hb') (fun x => x))
  inj:=fun i j o o' b' D E hi hj hbi hbj => by
   have hi':sget ((k,some ob) :: st.σ) i = some o:=hi
   have hj':sget ((k,some ob) :: st.σ) j = some o':=hj
   rw [sget_cons] at hi' hj'
   by_cases ei:i = k <;> by_cases ej:j = k
   ·rw [ei,ej]
   ·simp only [ei,ej,if_true,if_false] at hbi hbj
    rw [if_neg (fun x => ej x.symm)] at hj'
    have:=h.lt hj' hbj
    simp at hbi
    omega
   ·simp only [ei,ej,if_true,if_false] at hbi hbj
    rw [if_neg (fun x => ei x.symm)] at hi'
    have:=h.lt hi' hbi
    simp at hbj
    omega
   ·simp only [ei,ej,if_false] at hbi hbj
    rw [if_neg (fun x => ei x.symm)] at hi'
    rw [if_neg (fun x => ej x.symm)] at hj'
    exact h.inj i j o o' b' D E hi' hj' hbi hbj
  own:=fun i o b' D hi hbi => by
   have hi':sget ((k,some ob) :: st.σ) i = some o:=hi
   rw [sget_cons] at hi'
   by_cases ei:i = k
   ·simp only [ei,if_true] at hbi
    simp at hbi
    have:=h.keep.size
    right
    omega
   ·simp only [ei,if_false] at hbi
    rw [if_neg (fun x => ei x.symm)] at hi'
    exact h.own i o b' D hi' hbi
  sep:=fun i o b' D hi hbi => by
   have hi':sget ((k,some ob) :: st.σ) i = some o:=hi
   rw [sget_cons] at hi'
   by_cases ei:i = k
   ·simp only [ei,if_true] at hbi
    simp at hbi
    intro hx
    have:=hSz b' hx
    omega
   ·simp only [ei,if_false] at hbi
    rw [if_neg (fun x => ei x.symm)] at hi'
    exact h.sep i o b' D hi' hbi
  fresh:=fun i hi => by
   have hi':k + 1 ≤ i:=hi
   have e:i ≠ k:=by omega
   simp only [e,if_false]
   exact h.fresh i (by omega)
  glob:=fun g l hl => (h.glob g l hl).step hS hk'
  keep:=h.keep.trans (hk.mono fun _ _ x => x.elim)
  old:=h.old
  pin:=fun i x hx => ⟨(h.pin i x hx).1,hβ i x (h.pin i x hx).2⟩ }
end
section
open Go.RowKit

theorem RelB.kill {P:Program} {cx:Cx} {st:St} {a:Act} {w:World} {β:Bm} (h:RelB P cx st a w β) (k:Nat):RelB P cx { st with σ:=(k,none) :: st.σ } a w β:=by
 have hg:∀ i o,sget ((k,none) :: st.σ) i = some o → sget st.σ i = some o:=by
  intro i o ho
  rw [sget_cons] at ho
  split at ho
  ·cases ho
  ·exact ho
 have hS:∀ b',b' < w.heap.size → Av cx.S0 β ((k,none) :: st.σ) b' → Av cx.S0 β st.σ b':=by
  rintro b' _ (hx | ⟨i,o,D,ho,hx⟩)
  ·exact .inl hx
  ·exact .inr ⟨i,o,D,hg i o ho,hx⟩
 exact { h with
  fr:=fun i => (h.fr i).step (fun _ _ x => x) hS (Keeps.refl _ _)
  ob:=fun i o ho => (h.ob i o (hg i o ho)).step (fun _ _ x => x) hS (Keeps.refl _ _) (fun _ _ _ => rfl)
  inj:=fun i j o o' b C D hi hj => h.inj i j o o' b C D (hg i o hi) (hg j o' hj)
  glob:=fun g l hl => (h.glob g l hl).sub hS
  own:=fun i o b C hi => h.own i o b C (hg i o hi)
  sep:=fun i o b C hi => h.sep i o b C (hg i o hi) }

theorem RelB.virtX {P:Program} {cx:Cx} {st:St} {a:Act} {w:World} {β:Bm} (h:RelB P cx st a w β) (t:TypeId) {x0:Option Xob} (hx0:x0 = none ∨ x0 = some .resv) {k:Nat} (hkc:st.c ≤ k) :
  RelB P cx { st with σ:=(k,some ⟨t,[],x0⟩) :: st.σ,c:=k + 1 } a w (fun i => if i = k then some none else β i):=by
 have hβ:∀ i x,β i = some x → (fun i => if i = k then some none else β i) i = some x:=by
  intro i x hx
  have:i ≠ k:=fun e => by rw [e,h.fresh k hkc] at hx; cases hx
  simp [this,hx]
 have hg:∀ (i:Nat) o b C,sget ((k,some ⟨t,[],x0⟩) :: st.σ) i = some o → (if i = k then some none else β i) = some (some (b,C)) → i ≠ k ∧ sget st.σ i = some o ∧ β i = some (some (b,C)):=by
  intro i o b C ho hb
  rw [sget_cons] at ho
  by_cases e:i = k
  ·rw [if_pos e] at hb; cases hb
  ·rw [if_neg e] at hb
   rw [if_neg (fun x => e x.symm)] at ho
   exact ⟨e,ho,hb⟩
 have hS:∀ b',b' < w.heap.size → Av cx.S0 (fun i => if i = k then some none else β i) ((k,some ⟨t,[],x0⟩) :: st.σ) b' → Av cx.S0 β st.σ b':=by
  rintro b' _ (hx | ⟨i,o,D,ho,hx⟩)
  ·exact .inl hx
  ·obtain ⟨_,h1,h2⟩:=hg i o b' D ho hx
   exact .inr ⟨i,o,D,h1,h2⟩
 exact {
  size:=h.size
  defers:=h.defers
  loose:=h.loose
  rnd:=h.rnd
  fr:=fun i => (h.fr i).step hβ hS (Keeps.refl _ _)
  ob:=fun i o ho => by
   have ho':sget ((k,some ⟨t,[],x0⟩) :: st.σ) i = some o:=ho
   rw [sget_cons] at ho'
   by_cases e:k = i
   ·subst e
    rw [if_pos rfl] at ho'
    cases ho'
    exact .inl ⟨by simp,rfl,hx0⟩
   ·rw [if_neg e] at ho'
    exact (h.ob i o ho').step hβ hS (Keeps.refl _ _) (fun _ _ _ => rfl)
  inj:=fun i j o o' b C D hi hj hbi hbj => by
   obtain ⟨_,h1,h2⟩:=hg i o b C hi hbi
   obtain ⟨_,h3,h4⟩:=hg j o' b D hj hbj
   exact h.inj i j o o' b C D h1 h3 h2 h4
  own:=fun i o b C hi hbi => by
   obtain ⟨_,h1,h2⟩:=hg i o b C hi hbi
   exact h.own i o b C h1 h2
  sep:=fun i o b C hi hbi => by
   obtain ⟨_,h1,h2⟩:=hg i o b C hi hbi
   exact h.sep i o b C h1 h2
  fresh:=fun i hi => by
   have hi':k + 1 ≤ i:=hi
   have e:i ≠ k:=by omega
   simp only [e,if_false]
   exact h.fresh i (by omega)
  glob:=fun g l hl => (h.glob g l hl).sub hS
  keep:=h.keep
  old:=h.old
  pin:=fun i x hx => ⟨(h.pin i x hx).1,hβ i x (h.pin i x hx).2⟩ }

theorem RelB.virt {P:Program} {cx:Cx} {st:St} {a:Act} {w:World} {β:Bm} (h:RelB P cx st a w β) (t:TypeId) {k:Nat} (hkc:st.c ≤ k) :
  RelB P cx { st with σ:=(k,some ⟨t,[],none⟩) :: st.σ,c:=k + 1 } a w (fun i => if i = k then some none else β i):=h.virtX t (.inl rfl) hkc

theorem RelB.move {P:Program} {cx:Cx} {st:St} {a:Act} {w:World} {β:Bm} (h:RelB P cx st a w β) {i k:Nat} {ob:Ob} (ho:sget st.σ i = some ob) (hkc:st.c ≤ k) :
  RelB P cx { st with σ:=(k,some ob) :: (i,none) :: st.σ,c:=k + 1 } a w (fun j => if j = k then β i else β j):=by
 have hik:i ≠ k:=by
  intro e
  have h1:=h.fresh k hkc
  rcases (h.ob i ob ho).at with h2 | ⟨b,C,o',h2,_⟩ <;> rw [e,h1] at h2 <;> cases h2
 have hβ:∀ j x,β j = some x → (fun j => if j = k then β i else β j) j = some x:=by
  intro j x hx
  have:j ≠ k:=fun e => by rw [e,h.fresh k hkc] at hx; cases hx
  simp [this,hx]
 have hg:∀ (j:Nat) o b C,sget ((k,some ob) :: (i,none) :: st.σ) j = some o → (if j = k then β i else β j) = some (some (b,C)) → sget st.σ (if j = k then i else j) = some o ∧ β (if j = k then i else j) = some (some (b,C)) ∧ j ≠ i:=by
  intro j o b C hj hb
  rw [sget_cons] at hj
  by_cases e:j = k
  ·subst e
   rw [if_pos rfl] at hj hb ⊢
   cases hj
   exact ⟨ho,hb,fun x => hik x.symm⟩
  ·rw [if_neg e] at hb ⊢
   rw [if_neg (fun x => e x.symm),sget_cons] at hj
   split at hj
   ·cases hj
   ·exact ⟨hj,hb,fun x => by rename_i h'; exact h' x.symm⟩
 have hS:∀ b',b' < w.heap.size → Av cx.S0 (fun j => if j = k then β i else β j) ((k,some ob) :: (i,none) :: st.σ) b' → Av cx.S0 β st.σ b':=by
  rintro b' _ (hx | ⟨j,o,D,hj,hx⟩)
  ·exact .inl hx
  ·obtain ⟨h1,h2,_⟩:=hg j o b' D hj hx
   exact .inr ⟨_,o,D,h1,h2⟩
 exact {
  size:=h.size
  defers:=h.defers
  loose:=h.loose
  rnd:=h.rnd
  fr:=fun j => (h.fr j).step hβ hS (Keeps.refl _ _)
  ob:=fun j o hj => by
   have hj':sget ((k,some ob) :: (i,none) :: st.σ) j = some o:=hj
   rw [sget_cons] at hj'
   by_cases e:k = j
   ·subst e
    rw [if_pos rfl] at hj'
    cases hj'
    have:=(h.ob i ob ho).step hβ hS (Keeps.refl _ _) (fun _ _ _ => rfl)
    rcases this with ⟨h1,h2⟩ | ⟨b,x,o,h1,h2,h3,hrest⟩ | ⟨b,C,cur,hx,h1,hrest⟩
    ·exact .inl ⟨by simpa [hik] using h1,h2⟩
    ·exact .inr (.inl ⟨b,x,o,h1,h2,by simpa [hik] using h3,hrest⟩)
    ·exact .inr (.inr ⟨b,C,cur,hx,by simpa [hik] using h1,hrest⟩)
   ·rw [if_neg e,sget_cons] at hj'
    split at hj'
    ·cases hj'
    ·exact (h.ob j o hj').step hβ hS (Keeps.refl _ _) (fun _ _ _ => rfl)
  inj:=fun x y o o' b C D hx hy hbx hby => by
   obtain ⟨h1,h2,h3⟩:=hg x o b C hx hbx
   obtain ⟨h4,h5,h6⟩:=hg y o' b D hy hby
   have:=h.inj _ _ o o' b C D h1 h4 h2 h5
   split at this <;> split at this
   ·simp_all
   ·exact absurd this.symm h6
   ·exact absurd this h3
   ·exact this
  own:=fun x o b C hx hbx => by
   obtain ⟨h1,h2,_⟩:=hg x o b C hx hbx
   exact h.own _ o b C h1 h2
  sep:=fun x o b C hx hbx => by
   obtain ⟨h1,h2,_⟩:=hg x o b C hx hbx
   exact h.sep _ o b C h1 h2
  fresh:=fun x hx => by
   have hx':k + 1 ≤ x:=hx
   have e:x ≠ k:=by omega
   simp only [e,if_false]
   exact h.fresh x (by omega)
  glob:=fun g l hl => (h.glob g l hl).sub hS
  keep:=h.keep
  old:=h.old
  pin:=fun i x hx => ⟨(h.pin i x hx).1,hβ i x (h.pin i x hx).2⟩ }

theorem RelB.not_marks {P:Program} {cx:Cx} {st:St} {a:Act} {w:World} {β:Bm} (h:RelB P cx st a w β) {i:Nat} {ob:Ob} {b C:Nat} (ho:sget st.σ i = some ob) (hb:β i = some (some (b,C))) {l:Option (List Deferred)} (hd:w.heap[b]? = some (.deferred l)):False:=by
 rcases (h.ob i ob ho).at with h1 | ⟨b',C',o,h1,h2,h3⟩
 ·rw [h1] at hb; cases hb
 ·rw [h1] at hb; cases hb
  rw [h2] at hd; cases hd
  exact h3 l rfl

theorem RelB.write {P:Program} {cx:Cx} {st:St} {a:Act} {w w':World} {β:Bm} (h:RelB P cx st a w β) {i:Nat} {ob:Ob} {b C:Nat} {cur:Array Value} {l:List G} (ho:sget st.σ i = some ob) (hb:β i = some (some (b,C))) (hk:Keeps (fun k => k = b) w w')
  (hcur:w'.heap[b]? = some (.cells cur ob.t (0,0))) (hs:cur.size = C * tsz P ob.t) (hC:C ≤ maxLen) (hl:l.length ≤ cur.size) (hr:∀ (j:Nat) (g:G),l[j]? = some g → ∃ u,cur[j]? = some u ∧ u.oneCell' = true ∧ RV β (Av cx.S0 β st.σ) w g u) :
  RelB P cx { st with σ:=(i,some ⟨ob.t,l,none⟩) :: st.σ } a w' β:=by
 have hg:∀ (j:Nat) o,sget ((i,some ⟨ob.t,l,none⟩) :: st.σ) j = some o → ∃ o',sget st.σ j = some o':=by
  intro j o hj
  rw [sget_cons] at hj
  split at hj
  ·subst_vars; exact ⟨_,ho⟩
  ·exact ⟨o,hj⟩
 have hS:∀ b',b' < w.heap.size → Av cx.S0 β ((i,some ⟨ob.t,l,none⟩) :: st.σ) b' → Av cx.S0 β st.σ b':=by
  rintro b' _ (hx | ⟨j,o,D,hj,hx⟩)
  ·exact .inl hx
  ·obtain ⟨o',h1⟩:=hg j o hj
   exact .inr ⟨j,o',D,h1,hx⟩
 have hk':Keeps (Av cx.S0 β st.σ) w w':=hk.mono fun x _ e => by subst e; exact .inr ⟨i,ob,C,ho,hb⟩
 exact {
  size:=h.size
  defers:=h.defers.keep hk (fun D hD e => by subst e; exact h.not_marks ho hb hD)
  loose:=h.loose
  rnd:=h.rnd
  fr:=fun j => (h.fr j).step (fun _ _ x => x) hS hk'
  ob:=fun j o hj => by
   have hj':sget ((i,some ⟨ob.t,l,none⟩) :: st.σ) j = some o:=hj
   rw [sget_cons] at hj'
   by_cases e:i = j
   ·subst e
    rw [if_pos rfl] at hj'
    cases hj'
    refine .inr (.inr ⟨b,C,cur,rfl,hb,hcur,hs,hC,hl,fun j g hj => ?_⟩)
    obtain ⟨u,hu,h1,hr'⟩:=hr j g hj
    exact ⟨u,hu,h1,hr'.step (fun _ _ x => x) hS hk'⟩
   ·rw [if_neg e] at hj'
    exact (h.ob j o hj').step (fun _ _ x => x) hS hk' (fun b' D hb' => hk.block b' (h.lt hj' hb') (fun x => e (by subst x; exact h.inj i j ob o b' C D ho hj' hb hb')))
  inj:=fun x y o o' b' C' D hx hy hbx hby => by
   obtain ⟨o1,h1⟩:=hg x o hx
   obtain ⟨o2,h2⟩:=hg y o' hy
   exact h.inj x y o1 o2 b' C' D h1 h2 hbx hby
  own:=fun x o b' C' hx hbx => by
   obtain ⟨o1,h1⟩:=hg x o hx
   exact h.own x o1 b' C' h1 hbx
  sep:=fun x o b' C' hx hbx => by
   obtain ⟨o1,h1⟩:=hg x o hx
   exact h.sep x o1 b' C' h1 hbx
  fresh:=h.fresh
  glob:=fun g l hl => (h.glob g l hl).step hS hk'
  keep:=h.keep.then hk (fun x hx e => by
   subst e
   rcases h.own i ob x C ho hb with h1 | h1
   ·exact h1
   ·omega)
  old:=h.old
  pin:=h.pin }
theorem RelB.writeX {P:Program} {cx:Cx} {st:St} {a:Act} {w w':World} {β:Bm} (h:RelB P cx st a w β) {i:Nat} {ob:Ob} {b:Nat} {x:Xob} {o0:Obj} (ho:sget st.σ i = some ob) (hb:β i = some (some (b,0))) (hk:Keeps (fun k => k = b) w w') (hcur:w'.heap[b]? = some o0) (hr:XO β (Av cx.S0 β st.σ) w x o0) :
  RelB P cx { st with σ:=(i,some ⟨ob.t,[],some x⟩) :: st.σ } a w' β:=by
 have hg:∀ (j:Nat) o,sget ((i,some ⟨ob.t,[],some x⟩) :: st.σ) j = some o → ∃ o',sget st.σ j = some o':=by
  intro j o hj
  rw [sget_cons] at hj
  split at hj
  ·subst_vars; exact ⟨_,ho⟩
  ·exact ⟨o,hj⟩
 have hS:∀ b',b' < w.heap.size → Av cx.S0 β ((i,some ⟨ob.t,[],some x⟩) :: st.σ) b' → Av cx.S0 β st.σ b':=by
  rintro b' _ (hx | ⟨j,o,D,hj,hx⟩)
  ·exact .inl hx
  ·obtain ⟨o',h1⟩:=hg j o hj
   exact .inr ⟨j,o',D,h1,hx⟩
 have hk':Keeps (Av cx.S0 β st.σ) w w':=hk.mono fun x _ e => by subst e; exact .inr ⟨i,ob,0,ho,hb⟩
 exact {
  size:=h.size
  defers:=h.defers.keep hk (fun D hD e => by subst e; exact h.not_marks ho hb hD)
  loose:=h.loose
  rnd:=h.rnd
  fr:=fun j => (h.fr j).step (fun _ _ x => x) hS hk'
  ob:=fun j o hj => by
   have hj':sget ((i,some ⟨ob.t,[],some x⟩) :: st.σ) j = some o:=hj
   rw [sget_cons] at hj'
   by_cases e:i = j
   ·subst e
    rw [if_pos rfl] at hj'
    cases hj'
    exact .inr (.inl ⟨b,x,o0,rfl,rfl,hb,hcur,hr.step (fun _ _ x => x) hS hk'⟩)
   ·rw [if_neg e] at hj'
    exact (h.ob j o hj').step (fun _ _ x => x) hS hk' (fun b' D hb' => hk.block b' (h.lt hj' hb') (fun x => e (by subst x; exact h.inj i j ob o b' 0 D ho hj' hb hb')))
  inj:=fun x y o o' b' C' D hx hy hbx hby => by
   obtain ⟨o1,h1⟩:=hg x o hx
   obtain ⟨o2,h2⟩:=hg y o' hy
   exact h.inj x y o1 o2 b' C' D h1 h2 hbx hby
  own:=fun x o b' C' hx hbx => by
   obtain ⟨o1,h1⟩:=hg x o hx
   exact h.own x o1 b' C' h1 hbx
  sep:=fun x o b' C' hx hbx => by
   obtain ⟨o1,h1⟩:=hg x o hx
   exact h.sep x o1 b' C' h1 hbx
  fresh:=h.fresh
  glob:=fun g l hl => (h.glob g l hl).step hS hk'
  keep:=h.keep.then hk (fun x hx e => by
   subst e
   rcases h.own i ob _ 0 ho hb with h1 | h1
   ·exact h1
   ·omega)
  old:=h.old
  pin:=h.pin }

/-! ### the deferred calls of loops over functions, at a function's end -/
def shutAll (ds:List Nat) (w:World):World:=ds.foldl (fun w D => w.putObj D (.deferred none)) w
theorem shutAll_drawn:∀ (ds:List Nat) (w:World),(shutAll ds w).drawn = w.drawn
 | [],w => rfl
 | D :: ds,w => (shutAll_drawn ds (w.putObj D (.deferred none))).trans rfl
theorem shutAll_spec:∀ (ds:List Nat) (w:World),(shutAll ds w).heap.size = w.heap.size ∧ (shutAll ds w).os = w.os ∧ (shutAll ds w).tape = w.tape ∧ (shutAll ds w).output = w.output ∧ ∀ k,k ∉ ds → (shutAll ds w).heap[k]? = w.heap[k]?
 | [],w => ⟨rfl,rfl,rfl,rfl,fun _ _ => rfl⟩
 | D :: ds,w => by
  obtain ⟨h1,h2,h3,h4,h5⟩:=shutAll_spec ds (w.putObj D (.deferred none))
  refine ⟨h1.trans (by simp),h2,h3,h4,fun k hk => ?_⟩
  simp only [List.mem_cons,not_or] at hk
  exact (h5 k hk.2).trans (World.putObj_heap_other hk.1)
theorem RelB.shut {P:Program} {cx:Cx} {st:St} {a:Act} {w:World} {β:Bm} (h:RelB P cx st a w β) {ds:List Nat} (hds:∀ D ∈ ds,cx.w0.heap.size ≤ D ∧ w.heap[D]? = some (.deferred (some []))):RelB P cx st { a with defers:=[] } (shutAll ds w) β:=by
 obtain ⟨s1,s2,s3,s4,s5⟩:=shutAll_spec ds w
 have hck:CellKeeps (Av cx.S0 β st.σ) w (shutAll ds w):=by
  refine ⟨Nat.le_of_eq s1.symm,fun {b o u} hb hs hc => ?_⟩
  have hn:b ∉ ds:=fun hD => by
   have:=(hds b hD).2
   simp [World.cell?,this] at hc
  unfold World.cell? at hc ⊢
  simp only [s5 b hn]
  exact hc
 have hob:∀ i o b C,sget st.σ i = some o → β i = some (some (b,C)) → (shutAll ds w).heap[b]? = w.heap[b]?:=fun i o b C ho hb => s5 b fun hD => h.not_marks ho hb (hds b hD).2
 exact { h with
  size:=h.size
  defers:=.nil rfl
  fr:=fun i => (h.fr i).stepC (fun _ _ x => x) (fun _ _ x => x) hck
  ob:=fun i o ho => (h.ob i o ho).stepC (fun _ _ x => x) (fun _ _ x => x) hck (fun b C hb => hob i o b C ho hb)
  glob:=fun g l hl => (h.glob g l hl).stepC (fun _ _ x => x) hck
  keep:=⟨s2.trans h.keep.os,s3.trans h.keep.tape,s4.trans h.keep.output,by rw [s1]; exact h.keep.size,fun k hk hB => (s5 k (fun hD => by have:=(hds k hD).1; omega)).trans (h.keep.block k hk hB),by rw [shutAll_drawn]; exact h.keep.drawn⟩ }
end
end Go.Proofs.YtpehhhbmobmedaaGreatDoor
