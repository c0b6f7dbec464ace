/- Comparisons of terms, walked: cmp.Compare, cmp.Or, op.Less, spy.compare, spy.Less; huddleref11.Less, huddleref34.Less. -/
import Derived.Test.YtpehhhbmobmedaaGreatDoorGO
import Derived.Test.YtpehhhbmobmedaaGreatDoorGun
import Derived.Test.YtpehhhbmobmedaaGreatDoorG2
import Derived.Test.YtpehhhbmobmedaaGreatDoorKC
import Derived.Laws.StructEq
import Derived.KernelRfl
namespace Go.Proofs.YtpehhhbmobmedaaGreatDoor
set_option linter.unusedVariables false
set_option linter.unusedSimpArgs false
set_option linter.unusedSectionVars false
section
open Go.RowKit
attribute [local irreducible] Tr Run RunD GS TG Le Wk Frz Fn' ImmG Flat WkFr WkSt
abbrev gInt (z:Int):G:=.lit (.int .i64 z)
theorem imm1 {a:G} (ha:ImmG a):∀ g ∈ [a],ImmG g:=fun g hg => by
 obtain rfl:=List.mem_singleton.1 hg
 exact ha
theorem fn_glC {P:Program} {gl:List (Nat × List G)} {f:FuncId} {gs:List G} {r:G} (h:Fn' P [] f gs r):Fn' P gl f gs r:=by
 unfold Fn' at h ⊢
 exact fun w S vs hS _ hsz hvs => h w S vs hS (fun _ _ h => by cases h) hsz hvs
theorem nanI_fn (x:Int):Fn' Tryz.prog [] 171 [gInt x] (.lit (.bool false)):=by
 refine fn_enter Tryz.func171 rfl (by simp [Tryz.ntmps171]) ?_
 simp only [St.enter,enterFr,Tryz.ntmps171]
 refine wW ?_
 exact ended_r rfl (frz_bool (by simp))
theorem nanU_fn (x:Int):Fn' Tryz.prog [] 172 [.lit (.int .u64 x)] (.lit (.bool false)):=by
 refine fn_enter Tryz.func172 rfl (by simp [Tryz.ntmps172]) ?_
 simp only [St.enter,enterFr,Tryz.ntmps172]
 refine wW ?_
 exact ended_r rfl (frz_bool (by simp))
def sgn (x y:Int):Int:=if x < y then -1 else if y < x then 1 else 0
set_option maxHeartbeats 1000000 in
theorem cmpI_fn (x y:Int):Fn' Tryz.prog [] 118 [.lit (.int .i64 x),.lit (.int .i64 y)] (gInt (sgn x y)):=by
 refine fn_enter Tryz.func118 rfl (by simp [Tryz.ntmps118]) ?_
 simp only [St.enter,enterFr,Tryz.ntmps118]
 refine wW ?_
 refine run_pc (vs:=[.lit (.int .i64 x)]) rfl (by kernel_rfl) (imm1 (imm_lit _)) (nanI_fn x) (by decide) ?_
 refine wW ?_
 refine run_pc (vs:=[.lit (.int .i64 y)]) rfl (by kernel_rfl) (imm1 (imm_lit _)) (nanI_fn y) (by decide) ?_
 refine wW ?_
 refine tr_condF (by simp) ?_
 refine wW ?_
 refine tr_condF (by simp) ?_
 refine wW ?_
 refine tr_condP (p:=x < y) ?_ (fun h => ?_) (fun h => ?_)
 ·simp
 ·refine wW ?_
  exact ended_r rfl (frz_int (by unfold sgn; rw [if_pos h]))
 ·refine wW ?_
  refine tr_condP (p:=y < x) ?_ (fun h' => ?_) (fun h' => ?_)
  ·simp
  ·refine wW ?_
   exact ended_r rfl (frz_int (by unfold sgn; rw [if_neg h,if_pos h']))
  ·refine wW ?_
   exact ended_r rfl (frz_int (by unfold sgn; rw [if_neg h,if_neg h']))
set_option maxHeartbeats 1000000 in
theorem cmpU_fn (x y:Int):Fn' Tryz.prog [] 119 [.lit (.int .u64 x),.lit (.int .u64 y)] (gInt (sgn x y)):=by
 refine fn_enter Tryz.func119 rfl (by simp [Tryz.ntmps119]) ?_
 simp only [St.enter,enterFr,Tryz.ntmps119]
 refine wW ?_
 refine run_pc (vs:=[.lit (.int .u64 x)]) rfl (by kernel_rfl) (imm1 (imm_lit _)) (nanU_fn x) (by decide) ?_
 refine wW ?_
 refine run_pc (vs:=[.lit (.int .u64 y)]) rfl (by kernel_rfl) (imm1 (imm_lit _)) (nanU_fn y) (by decide) ?_
 refine wW ?_
 refine tr_condF (by simp) ?_
 refine wW ?_
 refine tr_condF (by simp) ?_
 refine wW ?_
 refine tr_condP (p:=x < y) ?_ (fun h => ?_) (fun h => ?_)
 ·simp
 ·refine wW ?_
  exact ended_r rfl (frz_int (by unfold sgn; rw [if_pos h]))
 ·refine wW ?_
  refine tr_condP (p:=y < x) ?_ (fun h' => ?_) (fun h' => ?_)
  ·simp
  ·refine wW ?_
   exact ended_r rfl (frz_int (by unfold sgn; rw [if_neg h,if_pos h']))
  ·refine wW ?_
   exact ended_r rfl (frz_int (by unfold sgn; rw [if_neg h,if_neg h']))
def orI:List Int → Int
 | [] => 0
 | x :: r => if x = 0 then orI r else x
theorem orI_skip {l:List Int} {i:Nat} (h:∀ x ∈ l.take i,x = 0):orI l = orI (l.drop i):=by
 induction i generalizing l with
 | zero => rfl
 | succ i ih =>
  cases l with
  | nil => rfl
  | cons x r =>
   simp only [List.take_succ_cons,List.mem_cons,forall_eq_or_imp] at h
   rw [List.drop_succ_cons,← ih h.2]
   show (if x = 0 then orI r else x) = orI r
   rw [if_pos h.1]
set_option maxHeartbeats 1000000 in
theorem or_fn (l:List Int) (n:Nat) (hl:l.length = n) (hn:n < 1000):Fn' Tryz.prog [] 117 [.sl (l.map gInt) n] (gInt (orI l)):=by
 refine fn_enter Tryz.func117 rfl (by simp [Tryz.ntmps117]) ?_
 simp only [St.enter,enterFr,Tryz.ntmps117]
 refine wW ?_
 refine tr_loop (fun q:{q:Nat // q ≤ n ∧ ∀ x ∈ l.take q,x = 0} => ⟨18,[],[(3,gInt 0),(6,.sl (l.map gInt) n),(7,gInt (n:Int)),(8,gInt (q.1:Int))],[],0,0,false⟩) (fun q => n - q.1) ⟨0,Nat.zero_le _,by simp⟩ ?_ ?_
 ·(refine le_to [] (by decide) (by simp) (by simp) ?_ ?_; (repeat' (first | exact wkfr_nil | refine wkfr_cons ?_ ?_)); (all_goals (try (first | exact wk_junk | exact wk_imm (imm_lit _) | exact wk_imm (imm_sl _ _) | exact wk_imm (imm_ptr _ _) | exact wk_rsl rfl | exact wk_rslE rfl (by simp) | exact wk_ref rfl | exact wkst_nil | exact wk_int (by omega) | refine wkst_eq rfl rfl ?_ ?_ wkst_nil))))
 ·rintro ⟨q,hq,hz⟩
  dsimp only
  refine wW ?_
  refine tr_condP (p:=q < n) ?_ (fun h => ?_) (fun h => ?_)
  ·simp
  ·have hql:q < l.length:=by omega
   obtain ⟨x,hx⟩:∃ x,l[q]? = some x:=⟨_,List.getElem?_eq_getElem hql⟩
   have hx':(l.map gInt)[q]? = some (gInt x):=by rw [List.getElem?_map,hx]; rfl
   repeat' (first | apply tr_seq | apply tr_region | apply run_nil | apply thn_n | apply thn_e | apply thn_r | apply blk_e | apply blk_n | apply blk_r | (refine blk_ne ?_ ?_; decide) | apply tr_block | apply tr_skip | apply tr_label | apply tr_exit | apply tr_ret | (refine tr_region_draw (bars:=[]) mixed (by kernel_rfl) ?_) | apply rund_nil | (apply run_v; simp (disch:=omega) [if_pos,hx',hx]; (first | rfl | exact ⟨rfl,rfl⟩ | exact ⟨rfl,rfl,rfl,rfl⟩); decide) | (apply rund_v; simp (disch:=omega) [if_pos,hx',hx]; (first | rfl | exact ⟨rfl,rfl⟩ | exact ⟨rfl,rfl,rfl,rfl⟩); decide) | (apply run_conv; simp (disch:=omega) [if_pos,hx',hx]; (first | rfl | exact ⟨rfl,rfl⟩ | exact ⟨rfl,rfl,rfl,rfl⟩); decide) | (apply rund_conv; simp (disch:=omega) [if_pos,hx',hx]; (first | rfl | exact ⟨rfl,rfl⟩ | exact ⟨rfl,rfl,rfl,rfl⟩); decide) | (apply run_min; simp (disch:=omega) [if_pos,hx',hx]; (first | rfl | exact ⟨rfl,rfl⟩ | exact ⟨rfl,rfl,rfl,rfl⟩); decide) | (apply rund_min; simp (disch:=omega) [if_pos,hx',hx]; (first | rfl | exact ⟨rfl,rfl⟩ | exact ⟨rfl,rfl,rfl,rfl⟩); decide) | (apply run_max; simp (disch:=omega) [if_pos,hx',hx]; (first | rfl | exact ⟨rfl,rfl⟩ | exact ⟨rfl,rfl,rfl,rfl⟩); decide) | (apply rund_max; simp (disch:=omega) [if_pos,hx',hx]; (first | rfl | exact ⟨rfl,rfl⟩ | exact ⟨rfl,rfl,rfl,rfl⟩); decide) | (apply run_lenS; simp (disch:=omega) [if_pos,hx',hx]; (first | rfl | exact ⟨rfl,rfl⟩ | exact ⟨rfl,rfl,rfl,rfl⟩); decide) | (apply rund_lenS; simp (disch:=omega) [if_pos,hx',hx]; (first | rfl | exact ⟨rfl,rfl⟩ | exact ⟨rfl,rfl,rfl,rfl⟩); decide) | (apply run_bs; simp (disch:=omega) [if_pos,hx',hx]; (first | rfl | exact ⟨rfl,rfl⟩ | exact ⟨rfl,rfl,rfl,rfl⟩); decide) | (apply run_app; simp (disch:=omega) [if_pos,hx',hx]; (first | rfl | exact ⟨rfl,rfl⟩ | exact ⟨rfl,rfl,rfl,rfl⟩); decide) | (apply run_build; simp (disch:=omega) [if_pos,hx',hx]; (first | rfl | exact ⟨rfl,rfl⟩ | exact ⟨rfl,rfl,rfl,rfl⟩); decide) | (apply run_box; simp (disch:=omega) [if_pos,hx',hx]; (first | rfl | exact ⟨rfl,rfl⟩ | exact ⟨rfl,rfl,rfl,rfl⟩); decide) | (apply run_alloc; simp (disch:=omega) [if_pos,hx',hx]; (first | rfl | exact ⟨rfl,rfl⟩ | exact ⟨rfl,rfl,rfl,rfl⟩); decide) | (apply rund_build; simp (disch:=omega) [if_pos,hx',hx]; (first | rfl | exact ⟨rfl,rfl⟩ | exact ⟨rfl,rfl,rfl,rfl⟩); decide) | (apply run_sto; simp (disch:=omega) [if_pos,hx',hx]; rfl) | (apply rund_bs; decide; simp (disch:=omega) [if_pos,hx',hx]; (first | rfl | exact ⟨rfl,rfl⟩ | exact ⟨rfl,rfl,rfl,rfl⟩); decide) | (apply rund_app; decide; simp (disch:=omega) [if_pos,hx',hx]; (first | rfl | exact ⟨rfl,rfl⟩ | exact ⟨rfl,rfl,rfl,rfl⟩); decide) | (apply rund_sto; decide; simp (disch:=omega) [if_pos,hx',hx]; rfl))
   by_cases h0:x = 0
   ·refine tr_condF (by simp [h0]) ?_
    refine wW ?_
    have hz':∀ y ∈ l.take (q + 1),y = 0:=by
     intro y hy
     rw [List.take_add_one,hx] at hy
     simp only [Option.toList,List.mem_append,List.mem_singleton] at hy
     rcases hy with hy | hy
     ·exact hz y hy
     ·rw [hy,h0]
    refine ⟨⟨q + 1,by omega,hz'⟩,?_,by show n - (q + 1) < n - q; omega⟩
    (refine le_to [] (by decide) (by simp) (by simp) ?_ ?_; (repeat' (first | exact wkfr_nil | refine wkfr_cons ?_ ?_)); (all_goals (try (first | exact wk_junk | exact wk_imm (imm_lit _) | exact wk_imm (imm_sl _ _) | exact wk_imm (imm_ptr _ _) | exact wk_rsl rfl | exact wk_rslE rfl (by simp) | exact wk_ref rfl | exact wkst_nil | exact wk_int (by omega) | refine wkst_eq rfl rfl ?_ ?_ wkst_nil))))
   ·refine tr_condT (by simp [h0]) ?_
    refine wW ?_
    refine ended_r rfl (frz_int ?_)
    rw [orI_skip hz,List.drop_eq_getElem_cons hql]
    have:l[q] = x:=by
     have:=List.getElem?_eq_getElem hql
     rw [hx] at this
     exact (Option.some.inj this).symm
    rw [this]
    show x = if x = 0 then orI _ else x
    rw [if_neg h0]
  ·refine wW ?_
   refine ended_r rfl (frz_int ?_)
   have:q = n:=by omega
   rw [orI_skip hz,List.drop_eq_nil_of_le (by omega)]
   rfl
end
section
open Go.RowKit
def intsOf:List G → Option (List Int)
 | [] => some []
 | .lit (.int .i64 x) :: r => (intsOf r).map (x :: ·)
 | _ => none
theorem intsOf_spec:∀ {l:List G} {m:List Int},intsOf l = some m → l = m.map gInt
 | [],m,h => by cases h; rfl
 | g :: r,m,h => by
  unfold intsOf at h
  split at h
  ·cases h; rename_i e; cases e
  ·rename_i x r' e
   cases e
   rw [Option.map_eq_some_iff] at h
   obtain ⟨m',h,rfl⟩:=h
   rw [intsOf_spec h]
   rfl
  ·cases h
def tpC:XPure:=fun fid gs gl => match gs with
 | [.lit (.int .i64 x),.lit (.int .i64 y)] => bif Nat.beq fid 118 then some (gInt (sgn x y)) else none
 | [.lit (.int .u64 x),.lit (.int .u64 y)] => bif Nat.beq fid 119 then some (gInt (sgn x y)) else none
 | [.sl l n] => bif Nat.beq fid 117 then (bif Nat.beq l.length n then (bif Nat.blt n 1000 then (intsOf l).map fun m => gInt (orI m) else none) else none) else none
 | _ => none
theorem tpC_ok:PureOk Tryz.prog tpC:=by
 intro fid gs gl r h
 unfold tpC at h
 split at h
 ·rename_i x y
  cases h1:Nat.beq fid 118 with
  | true =>
   rw [h1] at h; cases h
   obtain rfl:=Nat.eq_of_beq_eq_true h1
   exact ⟨fn_glC (cmpI_fn x y),flat_lit _,by kernel_rfl⟩
  | false => rw [h1] at h; cases h
 ·rename_i x y
  cases h1:Nat.beq fid 119 with
  | true =>
   rw [h1] at h; cases h
   obtain rfl:=Nat.eq_of_beq_eq_true h1
   exact ⟨fn_glC (cmpU_fn x y),flat_lit _,by kernel_rfl⟩
  | false => rw [h1] at h; cases h
 ·rename_i l n
  cases h1:Nat.beq fid 117 with
  | true =>
   rw [h1] at h
   simp only [cond_true] at h
   obtain rfl:=Nat.eq_of_beq_eq_true h1
   cases h2:Nat.beq l.length n with
   | false => rw [h2] at h; cases h
   | true =>
   rw [h2] at h
   simp only [cond_true] at h
   cases h3:Nat.blt n 1000 with
   | false => rw [h3] at h; cases h
   | true =>
   rw [h3] at h
   simp only [cond_true,Option.map_eq_some_iff] at h
   obtain ⟨m,hm,rfl⟩:=h
   obtain rfl:=intsOf_spec hm
   exact ⟨fn_glC (or_fn m n (by simpa using Nat.eq_of_beq_eq_true h2) (by have:=Nat.le_of_ble_eq_true h3; omega)),flat_lit _,by kernel_rfl⟩
  | false => rw [h1] at h; cases h
 ·cases h
def pfC:List Nat:=[118,119,117]
def EC:XEnv:={ pf:=fun f => pfC.any (Nat.beq f),tp:=tpC,fv:=false }
theorem EC_kc:KcOk Tryz.prog EC:=⟨(fun _ _ _ _ _ _ h => by cases h),(fun _ _ _ _ _ _ _ h => by cases h)⟩
abbrev gOp (a b c:Int):G:=.agg [gInt a,gInt b,.lit (.int .u64 c)]
def opC (a b c x y z:Int):Bool:=decide (orI [sgn a x,sgn b y,sgn c z] < 0)
theorem lessO_run (a b c x y z:Int):xpureR Tryz.prog EC (xcode Tryz.prog EC 100000) 76 [gOp a b c,gOp x y z] [] = some (.lit (.bool (opC a b c x y z))):=by kernel_rfl
theorem lessO_fn (a b c x y z:Int):Fn' Tryz.prog [] 76 [gOp a b c,gOp x y z] (.lit (.bool (opC a b c x y z))):=(xpureR_ok (xcode_ok mixed tpC_ok EC_kc 100000).toRunOk tpC_ok _ _ _ _ (lessO_run a b c x y z)).1
attribute [local irreducible] Tr Run RunD GS TG Le Wk Frz Fn' ImmG Flat WkFr WkSt
def opR (a b c x y z:Int):Bool:=if a = x then (if b = y then decide (c < z) else decide (b < y)) else decide (a < x)
set_option maxHeartbeats 1000000 in
theorem lessR_fn (a b c x y z:Int):Fn' Tryz.prog [] 80 [gOp a b c,gOp x y z] (.lit (.bool (opR a b c x y z))):=by
 refine fn_enter Tryz.func80 rfl (by simp [Tryz.ntmps80]) ?_
 simp only [St.enter,enterFr,Tryz.ntmps80]
 refine tr_seq ?_
 refine tr_region ?_
 refine run_box (l:=[gInt a,gInt b,.lit (.int .u64 c)]) (by kernel_rfl) (by decide) ?_
 refine run_box (l:=[gInt x,gInt y,.lit (.int .u64 z)]) (by kernel_rfl) (by decide) ?_
 refine wW ?_
 refine tr_condP (p:=a ≠ x) ?_ (fun h => ?_) (fun h => ?_)
 ·simp
 ·refine wW ?_
  exact ended_r rfl (frz_bool (by unfold opR; rw [if_neg h]))
 ·refine wW ?_
  refine tr_condP (p:=b ≠ y) ?_ (fun h' => ?_) (fun h' => ?_)
  ·simp
  ·refine wW ?_
   exact ended_r rfl (frz_bool (by unfold opR; rw [if_pos (Decidable.of_not_not h),if_neg h']))
  ·refine wW ?_
   exact ended_r rfl (frz_bool (by unfold opR; rw [if_pos (Decidable.of_not_not h),if_pos (Decidable.of_not_not h')]))
end
section
open Go.RowKit
section
variable {P:Program}
theorem sp_bind {α β:Type} {s:Sem α} {f:α → Sem β} {a:α} (h:spure P s = some a):spure P (s >>= f) = spure P (f a):=by rw [spure_bind,h]; rfl
theorem sp_ite {α:Type} {c:Prop} [Decidable c] {a b:Sem α}:spure P (if c then a else b) = if c then spure P a else spure P b:=by split <;> rfl
theorem sp_struct {d:Nat} {t:TypeId} {xs ys:Array Value} {fs:Array Field} (ht:spure P (underlying t) = some (.struct fs)) (hp:P.stoodInHeld t = false):spure P (Op.equalIn (d + 1) t (.agg xs) (.agg ys)) = spure P (Op.eqFields d xs ys fs.toList):=by
 unfold Op.equalIn
 rw [sp_bind ht]
 simp only []
 rw [sp_bind (show spure P Go.program = some P from rfl)]
 rw [hp]
 simp only [Bool.false_eq_true,if_false]
 rw [← Array.forIn_toList]
 generalize fs.toList = l
 clear ht
 induction l with
 | nil => rfl
 | cons f fs ih =>
  rw [spure_bind] at ih
  rw [spure_bind,List.forIn_cons,spure_bind]
  unfold Op.eqFields
  by_cases hn:f.name ≠ "_"
  ·rw [if_pos hn,if_pos hn]
   simp only [spure_bind]
   cases spure P (part f.type xs f.offset) with
   | none => rfl
   | some a =>
   cases spure P (part f.type ys f.offset) with
   | none => rfl
   | some b =>
   simp only [Option.bind_some]
   cases spure P (Op.equalIn d f.type a b) with
   | none => rfl
   | some r =>
   cases r with
   | false => rfl
   | true => exact ih
  ·rw [if_neg hn,if_neg hn]
   exact ih
theorem sp_int {d:Nat} {xs ys:Array Value} {f:Field} {fs:List Field} {k k':IntKind} {a b:Int} (hn:f.name ≠ "_") (hx:spure P (part f.type xs f.offset) = some (.int k a)) (hy:spure P (part f.type ys f.offset) = some (.int k b)) (ht:spure P (underlying f.type) = some (.int k')):spure P (Op.eqFields (d + 1) xs ys (f :: fs)) = if a = b then spure P (Op.eqFields (d + 1) xs ys fs) else some false:=by
 rw [Op.eqFields,if_pos hn,sp_bind hx,sp_bind hy]
 have e:spure P (Op.equalIn (d + 1) f.type (.int k a) (.int k b)) = some (a == b):=by
  unfold Op.equalIn
  rw [sp_bind ht]
  simp only [if_true]
  rfl
 rw [sp_bind e,sp_ite]
 by_cases h:a = b
 ·simp [h]
 ·rw [if_neg h,if_pos (by simp [h])]
  rfl
theorem sp_sub {d:Nat} {xs ys us vs:Array Value} {f:Field} {fs:List Field} {r:Bool} (hn:f.name ≠ "_") (hx:spure P (part f.type xs f.offset) = some (.agg us)) (hy:spure P (part f.type ys f.offset) = some (.agg vs)) (he:spure P (Op.equalIn d f.type (.agg us) (.agg vs)) = some r):spure P (Op.eqFields d xs ys (f :: fs)) = if r = true then spure P (Op.eqFields d xs ys fs) else some false:=by
 rw [Op.eqFields,if_pos hn,sp_bind hx,sp_bind hy,sp_bind he,sp_ite]
 cases r <;> rfl
theorem gb_neq_agg {t:TypeId} {p q:Operand} {l m:List G} {us vs:List Value} {r:Bool} (hl:glits l = some us) (hm:glits m = some vs) (hg:spure P (eqGuard .neq t p q (.agg us.toArray) (.agg vs.toArray)) = some ()) (he:spure P (Op.equalIn 10000 t (.agg us.toArray) (.agg vs.toArray)) = some r):gbin P .neq t p q (.agg l) (.agg m) = some (.lit (.bool (!r))):=by
 unfold gbin
 simp only [gval,hl,hm,Option.map_some]
 rw [sp_bind hg]
 have e:spure P (binOp .neq t (.agg us.toArray) (.agg vs.toArray)) = some (.bool (!r)):=by
  show spure P (Op.equalIn 10000 t (.agg us.toArray) (.agg vs.toArray) >>= fun b => pure (Value.bool (!b))) = _
  rw [sp_bind he]
  rfl
 rw [e]
 rfl
end
end
end Go.Proofs.YtpehhhbmobmedaaGreatDoor
