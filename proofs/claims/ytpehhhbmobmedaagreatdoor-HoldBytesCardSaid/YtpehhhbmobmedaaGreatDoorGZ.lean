/- A machine of values over the model: array literals, slices of three bounds, clear. -/
import Derived.Test.YtpehhhbmobmedaaGreatDoorGV
import Derived.Test.YtpehhhbmobmedaaGreatDoorFB
import Derived.Laws.CopyRow
namespace Go.Proofs.YtpehhhbmobmedaaGreatDoor
set_option linter.unusedVariables false
set_option linter.unusedSimpArgs false
set_option linter.unusedSectionVars false
open Go.RowKit
section
variable {P:Program}

/-! ### '[n]T{..}' -/
def gbuildA (P:Program) (t:TypeId) (parts:List (Nat × G)):Option G :=
 match tarr P t,tzero P t with
 | some (n,e),some zs => match tsize P e with
  | some s => (gfill (fun i => some (i * s,s)) (zs.map .lit) parts).map .agg
  | none => none
 | _,_ => none
theorem gs_buildA {o:Oper} {st:St} {t:TypeId} {parts:Array (Nat × Operand)} {g:G} (ho:o.op = .build t parts) (hd:∀ d,o.dst = some d → d < st.n) (hg:gbuildA P t (parts.toList.map fun p => (p.1,gev st p.2)) = some g):GS P o st (st.put o.dst g):=by
 intro cx a w K R ⟨β,h⟩ hK
 unfold gbuildA at hg
 split at hg
 ·rename_i n e zs hp hz
  obtain ⟨i,z,hi,hz',hzs,h1⟩:=tzero_spec hz
  have hu:=tarr_spec hp
  split at hg
  ·rename_i s hs
   simp only [tsize,Option.map_eq_some_iff] at hs
   obtain ⟨ie,hie,rfl⟩:=hs
   simp only [Option.map_eq_some_iff] at hg
   obtain ⟨out,hout,rfl⟩:=hg
   obtain ⟨us,hus,hr⟩:=gfill_run (β:=β) (S:=Av cx.S0 β st.σ) (w:=w) (e:=a.eval) (fun x => h.ev x) parts.toList (Rw.lits h1) hout
   have hb:P.built t ((parts.map fun (p:Nat × Operand) => (p.1,a.eval p.2)).toList) = some us.toArray:=by
    unfold Program.built
    simp only [hi,hu,hz',hie]
    rw [← hus,← hzs]
    simp
   have hrun:(execOp a.eval o).run P w = .ok (.value (.agg us.toArray)) w:=by
    unfold execOp
    simp [ho,Go.run_build w t _ _ hb]
   refine h.loose.oper (fun c hc => by rw [ho] at hc; cases hc) ?_
   unfold Oper.wp
   rw [hrun]
   refine hK _ _ ⟨β,h.put o.dst hd (.agg _ _ (by simpa using hr.1) (fun i u hu => ?_) (fun i g u hg hu => hr.2.2 i g u hg (by simpa using hu)))⟩
   exact hr.2.1 u (List.mem_of_getElem? (by simpa using hu))
  ·cases hg
 ·cases hg

/-! ### 'x[a:h:m]' -/
theorem slice_run3 {t e:TypeId} {s:Nat} (ht:P.underlying t = some (.slice e)) (hs:tsize P e = some s) (a:Option Addr) (n cap:Nat) (k1 k2 k3:IntKind) (L H M:Nat) (h1:L ≤ H) (h2:H ≤ M) (h3:M ≤ cap) (w:World) :
  (Instr.sliceAt t (.slice a n cap) (some (.int k1 L)) (some (.int k2 H)) (some (.int k3 M))).run P w = .ok (.slice (if M = L then a else a.map (·.add (L * s))) (H - L) (M - L)) w:=by
 have e1:(Instr.sliceBounds true n cap (some (.int k1 L)) (some (.int k2 H)) (some (.int k3 M))).run P w = .ok (L,H,M) w:=by
  unfold Instr.sliceBounds
  simp [bound_run (P:=P) (.int k3 (M:Int)) (M:Int) cap .slice3Acap ⟨k3,rfl⟩ (by omega) (by omega),bound_run (P:=P) (.int k2 (H:Int)) (H:Int) M .slice3B ⟨k2,rfl⟩ (by omega) (by omega),bound_run (P:=P) (.int k1 (L:Int)) (L:Int) H .slice3C ⟨k1,rfl⟩ (by omega) (by omega)]
 unfold Instr.sliceAt
 simp only [Sem.run_bind,run_underlying ht,Result.andThen_ok]
 unfold Instr.slice
 simp only [Sem.run_bind,run_underlying ht,Result.andThen_ok,e1,run_sizeOf hs]
 rfl
def gslice3 (P:Program) (t:TypeId) (x lo hi mx:G):Option G:=match x,telem P t,gint lo,gint hi,gint mx with
 | .sl l n,some e,some a,some h,some m => match tsize P e with
  | some s => if 0 ≤ a ∧ a ≤ h ∧ h ≤ m ∧ m ≤ n then some (.sl ((l.take (h.toNat * s)).drop (a.toNat * s)) (h.toNat - a.toNat)) else none
  | none => none
 | _,_,_,_,_ => none
theorem gs_slice3 {o:Oper} {st:St} {t:TypeId} {x lo hi mx:Operand} {g:G} (ho:o.op = .slice t x (some lo) (some hi) (some mx)) (hd:∀ d,o.dst = some d → d < st.n) (hg:gslice3 P t (gev st x) (gev st lo) (gev st hi) (gev st mx) = some g):GS P o st (st.put o.dst g):=by
 intro cx a w K R ⟨β,h⟩ hK
 unfold gslice3 at hg
 split at hg
 ·rename_i l n e A H M hx he hA hH hM
  split at hg
  ·rename_i s hs
   split at hg
   ·rename_i hc
    cases hg
    have ht:=telem_spec he
    have hxv:=h.ev x
    rw [hx] at hxv
    obtain ⟨ad,cap,us,hv,hn,hm,ha,h1,hcell⟩:=hxv.sl_cells
    obtain ⟨k1,hk1⟩:=gint_run (h.ev lo) hA
    obtain ⟨k2,hk2⟩:=gint_run (h.ev hi) hH
    obtain ⟨k3,hk3⟩:=gint_run (h.ev mx) hM
    have hrun0:=slice_run3 ht hs ad n cap k1 k2 k3 A.toNat H.toNat M.toNat (by omega) (by omega) (by omega) w
    have c1:((A.toNat:Nat):Int) = A:=by omega
    have c2:((H.toNat:Nat):Int) = H:=by omega
    have c3:((M.toNat:Nat):Int) = M:=by omega
    rw [c1,c2,c3] at hrun0
    have hrun:(execOp a.eval o).run P w = .ok (.value (.slice (if M.toNat = A.toNat then ad else ad.map (·.add (A.toNat * s))) (H.toNat - A.toNat) (M.toNat - A.toNat))) w:=by
     unfold execOp
     simp only [ho,Option.map_some,hv,hk1,hk2,hk3]
     simp [hrun0]
    refine h.loose.oper (fun c hc => by rw [ho] at hc; cases hc) ?_
    unfold Oper.wp
    rw [hrun]
    refine hK _ _ ⟨β,h.put o.dst hd (.imm _ _ (sl_sub (n:=n) (by omega) (by omega) (by omega) ha h1 hcell (fun i g hg => ?_) (fun e => ?_)))⟩
    ·rw [List.getElem?_drop,List.getElem?_take] at hg
     split at hg
     ·exact hg
     ·cases hg
    ·have:H.toNat = A.toNat:=by omega
     rw [this]; simp
   ·cases hg
  ·cases hg
 ·cases hg

/-! ### 'clear(x)' -/
def gclear (P:Program) (σ:Sto) (t:TypeId) (g:G):Option (Nat × Ob):=match g with
 | .rsl i o n => match sget σ i,telem P t with
  | some ob,some e => match tzero P e,tsize P e with
   | some zs,some s => if zs.length = s ∧ 0 < n ∧ 0 < s ∧ o + n * s ≤ ob.l.length ∧ ob.x.isNone = true then some (i,⟨ob.t,ob.l.take o ++ (gzeros zs (n * s)).map .lit ++ ob.l.drop (o + n * s),none⟩) else none
   | _,_ => none
  | _,_ => none
 | _ => none
theorem gzeros_one {zs:List Value} {m:Nat} (hz:∀ v ∈ zs,v.oneCell' = true) (hl:0 < zs.length):∀ v ∈ gzeros zs m,v.oneCell' = true:=by
 intro v hv
 simp only [gzeros,List.mem_map,List.mem_range] at hv
 obtain ⟨k,hk,rfl⟩:=hv
 have hlt:=Nat.mod_lt k hl
 rw [List.getD_eq_getElem?_getD,List.getElem?_eq_getElem hlt]
 exact hz _ (List.getElem_mem hlt)
theorem zeroCells_eq {z:Value} {zs:List Value} (hzs:z.cells.toList = zs) (hl:0 < zs.length) (n:Nat):(Builtin.zeroCells z.cells n).toList = gzeros zs (n * zs.length):=by
 have hsz:z.cells.size = zs.length:=by rw [← hzs]; simp
 unfold Builtin.zeroCells gzeros
 rw [hsz]
 apply List.ext_getElem (by simp)
 intro j h1 h2
 have hlt:=Nat.mod_lt j hl
 simp only [Array.getElem_toList,Array.getElem_map,Array.getElem_range,List.getElem_map,List.getElem_range]
 rw [List.getD_eq_getElem?_getD,List.getElem?_eq_getElem hlt,getElem!_pos z.cells _ (by omega)]
 simp only [Option.getD_some,← hzs,Array.getElem_toList]
theorem gs_clear {o:Oper} {st:St} {t:TypeId} {x:Operand} {i:Nat} {ob:Ob} (ho:o.op = .call { callee:=.builtin .clear,args:=#[x],argTypes:=#[t] }) (hd:∀ d,o.dst = some d → d < st.n) (hg:gclear P st.σ t (gev st x) = some (i,ob)):GS P o st ({ st with σ:=(i,some ob) :: st.σ }.put o.dst (.tup [])):=by
 intro cx a w K R ⟨β,h⟩ hK
 unfold gclear at hg
 split at hg
 ·rename_i i' k n hx
  split at hg
  ·rename_i ob' e hob he
   split at hg
   ·rename_i zs s hz hs
    split at hg
    ·rename_i hc
     cases hg
     have ht:=telem_spec he
     obtain ⟨it,z,hi,hz',hzs,h1⟩:=tzero_spec hz
     obtain ⟨hzl,hn0,hs0,hle,hxo⟩:=hc
     have hxo:=Option.isNone_iff_eq_none.1 hxo
     have hxv:=h.ev x
     rw [hx] at hxv
     rcases hxv.rsl_form with ⟨_,_,h0⟩ | ⟨b,C,o',cap,hb,hv,hn,hm,hoo,hC⟩
     ·omega
     rw [hoo (by omega)] at hv
     rcases h.ob i ob' hob with ⟨h1',_⟩ | ⟨b',x',o'',hx',_⟩ | ⟨b',C',cur,_,g1,g2,g3,g4,g5,g6⟩
     ·rw [h1'] at hb; cases hb
     ·rw [hxo] at hx'; cases hx'
     rw [g1] at hb; cases hb
     have hzc:=zeroCells_eq hzs (by omega) n
     rw [hzl] at hzc
     have hgl:(gzeros zs (n * s)).length = n * s:=by simp [gzeros]
     have hone:=gzeros_one (m:=n * s) h1 (by omega)
     have hst:=run_storeCells_at (P:=P) b k ob'.t (gzeros zs (n * s)) 0 cur w g2 (by rw [hgl]; omega) hone
     simp only [Nat.add_zero,hgl] at hst
     obtain ⟨m,rfl⟩:∃ m,n = m + 1:=⟨n - 1,by omega⟩
     have hzv:(zeroValue e).run P w = .ok z w:=by simp [zeroValue,typeInfo,hi,hz']
     have hrun:(execOp a.eval o).run P w = .ok (.value (.tuple #[])) (w.setRow b (cur.toList.take k ++ gzeros zs ((m + 1) * s) ++ cur.toList.drop (k + (m + 1) * s)).toArray):=by
      unfold execOp
      simp only [ho,resolve,invoke,builtin,Sem.run_bind,Sem.run_pure,Result.andThen_ok,List.map_toArray,List.map_cons,List.map_nil,Builtin.clear_,hv]
      simp only [List.getElem?_toArray,List.getElem?_cons_zero,Sem.run_bind,run_underlying ht,Result.andThen_ok,hzv,hzc,hst,Sem.run_pure]
     have hsz:(cur.toList.take k ++ gzeros zs ((m + 1) * s) ++ cur.toList.drop (k + (m + 1) * s)).toArray.size = cur.size:=by simp [hgl]; omega
     have hh:=setRow_heap w b cur (cur.toList.take k ++ gzeros zs ((m + 1) * s) ++ cur.toList.drop (k + (m + 1) * s)).toArray ob'.t (0,0) g2
     have hkeep:Keeps (fun x => x = b) w (w.setRow b (cur.toList.take k ++ gzeros zs ((m + 1) * s) ++ cur.toList.drop (k + (m + 1) * s)).toArray):=⟨rfl,rfl,rfl,by simp,fun x _ hx => setRow_other w b x _ hx,Nat.le_refl _⟩
     have hlen:((gzeros zs ((m + 1) * s)).map G.lit).length = (m + 1) * s:=by simp [hgl]
     have hw:=h.write (l:=ob'.l.take k ++ (gzeros zs ((m + 1) * s)).map .lit ++ ob'.l.drop (k + (m + 1) * s)) hob g1 hkeep hh (by rw [hsz]; exact g3) g4 (by rw [hsz]; simp [hgl]; omega) (fun j g hg => by
      have hg':(ob'.l.take k ++ (gzeros zs ((m + 1) * s)).map .lit ++ ob'.l.drop (k + ((gzeros zs ((m + 1) * s)).map G.lit).length))[j]? = some g:=by rw [hlen]; exact hg
      obtain ⟨u,hu,h7,h8⟩:=splice_rel (R:=fun g u => u.oneCell' = true ∧ RV β (Av cx.S0 β st.σ) w g u) (xs:=cur.toList) (xs':=gzeros zs ((m + 1) * s)) (fun j g hg => by
       obtain ⟨u,hu,h7,h8⟩:=g6 j g hg
       exact ⟨u,by rw [Array.getElem?_toList]; exact hu,h7,h8⟩) (fun j g hg => by
       rw [List.getElem?_map,Option.map_eq_some_iff] at hg
       obtain ⟨u,hu,rfl⟩:=hg
       exact ⟨u,hu,hone u (List.mem_of_getElem? hu),.imm _ _ (.lit u)⟩) (by simp) (by simpa using g5) (by rw [hlen]; omega) j g hg'
      refine ⟨u,?_,h7,h8⟩
      rw [List.getElem?_toArray]
      rw [hgl] at hu
      exact hu)
     refine h.loose.oper (fun c hc => by rw [ho] at hc; cases hc) ?_
     unfold Oper.wp
     rw [hrun]
     exact hK _ _ ⟨β,hw.put o.dst hd (.tup _ _ rfl (by simp))⟩
    ·cases hg
   ·cases hg
  ·cases hg
 ·cases hg

/-! ### 'copy(x, y)', of as many -/
def gcopy (P:Program) (σ:Sto) (t:TypeId) (gx gy:G):Option (Nat × Ob × Nat):=match gx with
 | .rsl i o n => match sget σ i,telem P t with
  | some ob,some e => match tsize P e with
   | some s => match gview σ s gy with
    | some (news,m) => if m = n ∧ 0 < n ∧ 0 < s ∧ o + n * s ≤ ob.l.length ∧ ob.x.isNone = true then some (i,⟨ob.t,ob.l.take o ++ news ++ ob.l.drop (o + n * s),none⟩,n) else none
    | none => none
   | none => none
  | _,_ => none
 | _ => none
theorem gs_copy {o:Oper} {st:St} {t u:TypeId} {x y:Operand} {i n:Nat} {ob:Ob} (ho:o.op = .call { callee:=.builtin .copy,args:=#[x,y],argTypes:=#[t,u] }) (hd:∀ d,o.dst = some d → d < st.n) (hg:gcopy P st.σ t (gev st x) (gev st y) = some (i,ob,n)):GS P o st ({ st with σ:=(i,some ob) :: st.σ }.put o.dst (.lit (.int .i64 (n:Int)))):=by
 intro cx a w K R ⟨β,h⟩ hK
 unfold gcopy at hg
 split at hg
 ·rename_i i' k n' hx
  split at hg
  ·rename_i ob' e hob he
   split at hg
   ·rename_i s hs
    split at hg
    ·rename_i news m hnews
     split at hg
     ·rename_i hc
      cases hg
      have ht:=telem_spec he
      obtain ⟨hmn,hn0,hs0,hle,hxo⟩:=hc
      subst hmn
      have hxo:=Option.isNone_iff_eq_none.1 hxo
      have hxv:=h.ev x
      rw [hx] at hxv
      rcases hxv.rsl_form with ⟨_,_,h0⟩ | ⟨b,C,o',cap,hb,hv,hn,hm,hoo,hC⟩
      ·omega
      rw [hoo (by omega)] at hv
      obtain ⟨A,cp,newsV,hvy,hnl,hrw,hcell⟩:=gview_run h (h.ev y) hnews
      have hpos:0 < m * s:=Nat.mul_pos hn0 hs0
      obtain ⟨a0,rfl⟩:∃ a0,A = some a0:=by
       obtain ⟨a0,h1,_⟩:=hcell 0 _ (List.getElem?_eq_getElem (by omega))
       exact ⟨a0,h1⟩
      have hsrc:∀ j v,newsV[j]? = some v → w.cell? (a0.add j) = some v:=fun j v hj => by
       obtain ⟨a1,h1,h2⟩:=hcell j v hj
       cases h1; exact h2
      rcases h.ob i ob' hob with ⟨h1',_⟩ | ⟨b',x',o'',hx',_⟩ | ⟨b',C',cur,_,g1,g2,g3,g4,g5,g6⟩
      ·rw [h1'] at hb; cases hb
      ·rw [hxo] at hx'; cases hx'
      rw [g1] at hb; cases hb
      have hnewsl:news.length = m * s:=by rw [← hrw.1,hnl]
      have hld:=run_loadCells_list (P:=P) w a0 newsV hsrc
      have hst:=run_storeCells_at (P:=P) b k ob'.t newsV 0 cur w g2 (by rw [hnl]; omega) hrw.2.1
      rw [hnl] at hld
      simp only [Nat.add_zero,hnl] at hst
      have hsz1:(sizeOf e).run P w = .ok s w:=by
       unfold tsize at hs
       cases hq:P.info? e with
       | none => rw [hq] at hs; cases hs
       | some q =>
        rw [hq] at hs
        simp only [Option.map_some,Option.some.injEq] at hs
        simp [sizeOf,typeInfo,hq,hs]
      have hmin:Nat.min m m = m:=Nat.min_self m
      have hrun:(execOp a.eval o).run P w = .ok (.value (goInt m)) (w.setRow b (cur.toList.take k ++ newsV ++ cur.toList.drop (k + m * s)).toArray):=by
       unfold execOp
       simp only [ho,resolve,invoke,builtin,Sem.run_bind,Sem.run_pure,Result.andThen_ok,List.map_toArray,List.map_cons,List.map_nil,Builtin.copy_,hv,hvy]
       simp [run_underlying ht,Builtin.lenOf,Builtin.firstCells,hsz1,hld,hst]
      have hsz:(cur.toList.take k ++ newsV ++ cur.toList.drop (k + m * s)).toArray.size = cur.size:=by simp [hnl]; omega
      have hh:=setRow_heap w b cur (cur.toList.take k ++ newsV ++ cur.toList.drop (k + m * s)).toArray ob'.t (0,0) g2
      have hkeep:Keeps (fun x => x = b) w (w.setRow b (cur.toList.take k ++ newsV ++ cur.toList.drop (k + m * s)).toArray):=⟨rfl,rfl,rfl,by simp,fun x _ hx => setRow_other w b x _ hx,Nat.le_refl _⟩
      have hw:=h.write (l:=ob'.l.take k ++ news ++ ob'.l.drop (k + m * s)) hob g1 hkeep hh (by rw [hsz]; exact g3) g4 (by rw [hsz]; simp [hnewsl]; omega) (fun j g hg => by
       have hg':(ob'.l.take k ++ news ++ ob'.l.drop (k + news.length))[j]? = some g:=by rw [hnewsl]; exact hg
       obtain ⟨u,hu,h7,h8⟩:=splice_rel (R:=fun g u => u.oneCell' = true ∧ RV β (Av cx.S0 β st.σ) w g u) (xs:=cur.toList) (xs':=newsV) (fun j g hg => by
        obtain ⟨u,hu,h7,h8⟩:=g6 j g hg
        exact ⟨u,by rw [Array.getElem?_toList]; exact hu,h7,h8⟩) (fun j g hg => by
        have hlt:=(List.getElem?_eq_some_iff.1 hg).1
        have hx:newsV[j]? = some (newsV[j]'(by omega)):=List.getElem?_eq_getElem _
        exact ⟨_,hx,hrw.2.1 _ (List.mem_of_getElem? hx),hrw.2.2 j g _ hg hx⟩) (by omega) (by simpa using g5) (by rw [hnewsl]; omega) j g hg'
       refine ⟨u,?_,h7,h8⟩
       rw [List.getElem?_toArray]
       rw [hnl] at hu
       exact hu)
      refine h.loose.oper (fun c hc => by rw [ho] at hc; cases hc) ?_
      unfold Oper.wp
      rw [hrun]
      exact hK _ _ ⟨β,hw.put o.dst hd (.imm _ _ (.lit _))⟩
     ·cases hg
    ·cases hg
   ·cases hg
  ·cases hg
 ·cases hg
end
end Go.Proofs.YtpehhhbmobmedaaGreatDoor
