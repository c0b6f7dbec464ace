/- A machine of values over the model, fifteenth part: bytes and strings; calls as a walk takes them. -/
import Derived.Test.YtpehhhbmobmedaaGreatDoorGN
import Derived.Lib.AppendStr
import Derived.Laws.IdiomStrings
namespace Go.Proofs.YtpehhhbmobmedaaGreatDoor
set_option linter.unusedVariables false
set_option linter.unusedSimpArgs false
set_option linter.unusedSectionVars false
section
open Go.RowKit Go.Lib
section
variable {P:Program} {rr:Bool}

theorem run_append_string2 (w:World) (t u ty e:TypeId) (i:TypeInfo) (ht:P.underlying t = some (.slice e)) (hu:P.underlying u = some .string) (hi:P.info? e = some i) (hz:i.zero = some (.int .u8 0))
  (hsize:i.size = 1) (hby:i.bytes = 1) (v:Value) (n:Nat) (xs:List Value) (hown:w.ownsRow 0 e 1 v n xs) (s:ByteArray) (h63:n + s.size ≤ maxLen) (hbytes:n + s.size ≤ 140737488355328) :
  ∃ v' w',(Builtin.append_ #[t,u] ty #[v,.string s]).run P w = .ok v' w' ∧ w'.ownsRow 0 e 1 v' (n + s.size) (xs ++ strCells s) ∧ w.grownBy w' v.ownBlock ∧ (v'.ownBlock = v.ownBlock ∨ v'.ownBlock = some w.heap.size):=by
 obtain ⟨v',w',hrun,ho,hg,hnil⟩:=run_append_own_string (P:=P) w 0 t u ty e i ht hu hi hz hsize hby v n xs hown s h63 hbytes (Nat.zero_le _)
 refine ⟨v',w',hrun,ho,hg,?_⟩
 have hsmall:n + s.size ≤ 9223372036854775807:=by simp only [maxLen] at h63; omega
 have hxl:xs.length = n:=by simpa using hown.1
 rcases hown.2 with ⟨rfl,rfl⟩ | ⟨g,cap,cur,rfl,hbg,hgg,hnc,hcm,hcs,htake⟩
 ·by_cases hm:s.size = 0
  ·have:=hnil.2 ⟨rfl,hm⟩
   subst this
   exact .inl rfl
  ·have hr:=run_append_nil_string (P:=P) w t u ty e i (.int .u8 0) ht hu hi hz s (by omega) (by omega) (by rw [hby]; omega)
   rw [hrun] at hr
   injection hr with e1 e2
   subst e1
   right; rfl
 ·by_cases hroom:n + s.size ≤ cap
  ·have hcs':cur.size = cap:=by simpa using hcs
   have hr:=run_append_room_string (P:=P) w t u ty e i ht hu hi hsize g n cap cur hgg s hroom (by omega)
   rw [hrun] at hr
   injection hr with e1 e2
   subst e1
   left; rfl
  ·have holds:∀ j u,xs[j]? = some u → w.cell? ((⟨g,0,none⟩:Addr).add j) = some u:=hown.cells (g:=g) rfl
   have hr:=run_append_grow_string (P:=P) w t u ty e i (.int .u8 0) ht hu hi hz ⟨g,0,none⟩ n cap xs (by rw [hsize]; simpa using hxl) holds s (by omega) (by omega) (by rw [hby]; exact growslice_fits (by omega) (by omega))
   rw [hrun] at hr
   injection hr with e1 e2
   subst e1
   right; rfl

def tint (P:Program) (t:TypeId):Option IntKind:=(P.underlying t).bind fun | .int k => some k | _ => none
def tstr (P:Program) (t:TypeId):Bool:=(P.underlying t) matches some .string
theorem tint_spec {t:TypeId} {k:IntKind} (h:tint P t = some k):P.underlying t = some (.int k):=by
 simp only [tint,Option.bind_eq_some_iff] at h
 obtain ⟨d,hd,h⟩:=h
 cases d <;> simp at h
 subst h; exact hd
theorem tstr_spec {t:TypeId} (h:tstr P t = true):P.underlying t = some .string:=by
 unfold tstr at h
 split at h
 ·assumption
 ·cases h

abbrev gY (b:UInt8):G:=.lit (.int .u8 (b.toNat:Int))
def gBytes (l:List UInt8):G:=.sl (l.map gY) l.length
theorem gs_appendS {o:Oper} {st:St} {t u e:TypeId} {x y:Operand} {i n:Nat} {l:List G} {s:List UInt8} (ho:o.op = .call { callee:=.builtin .append,args:=#[x,y],argTypes:=#[t,u] }) (hd:∀ d,o.dst = some d → d < st.n)
  (he:telem P t = some e) (hu:tstr P u = true) (hs:tsize P e = some 1) (hz:(P.info? e).bind (·.zero) = some (.int .u8 0)) (hby:(P.info? e).map (·.bytes) = some 1)
  (hx:gsrc st.σ st.c e 1 (gev st x) = some (i,n,l)) (hy:gev st y = .lit (.string ⟨s.toArray⟩)) (hbytes:n + s.length ≤ 140737488355328) :
  GS P o st ({ st with σ:=(st.c,some ⟨e,l ++ s.map gY,none⟩) :: (i,none) :: st.σ,c:=st.c + 1 }.put o.dst (.rsl st.c 0 (n + s.length))):=by
 intro cx a w K R ⟨β,h⟩ hK
 obtain ⟨ti,hi⟩:∃ ti,P.info? e = some ti:=by
  cases hi:P.info? e with
  | none => rw [hi] at hz; cases hz
  | some ti => exact ⟨ti,rfl⟩
 have ht:=telem_spec he
 have hsize:ti.size = 1:=by simp [tsize,hi] at hs; exact hs
 have hbytes':ti.bytes = 1:=by rw [hi] at hby; simpa using hby
 have hz':ti.zero = some (.int .u8 0):=by rw [hi] at hz; simpa using hz
 have hyv:a.eval y = .string ⟨s.toArray⟩:=by have:=h.ev y; rw [hy] at this; exact this.lit_eq
 have hsz:(⟨s.toArray⟩:ByteArray).size = s.length:=by simp [ByteArray.size]
 have hsc:strCells ⟨s.toArray⟩ = s.map fun b => Value.int .u8 (b.toNat:Int):=by simp [strCells]
 have hnr:Rw β (Av cx.S0 β st.σ) w (s.map gY) (s.map fun b => Value.int .u8 (b.toNat:Int)):=by
  have:=Rw.lits (β:=β) (S:=Av cx.S0 β st.σ) (w:=w) (zs:=s.map fun b => Value.int .u8 (b.toNat:Int)) (fun v hv => by
   simp only [List.mem_map] at hv
   obtain ⟨b,_,rfl⟩:=hv
   rfl)
  rw [List.map_map] at this
  exact this
 obtain ⟨v',w',hrun,hrel⟩:=append_core h hs (h.ev x) hx (by simp) hnr (m:=s.length) (X:=fun v' w' => (execOp a.eval o).run P w = .ok (.value v') w') (fun v' w' hr => sem_drawn _ _ _ _ _ hr) (fun xs hown => by
  obtain ⟨v',w',hrun',h2,h3,h4⟩:=run_append_string2 (P:=P) w t u o.type e ti ht (tstr_spec hu) hi hz' hsize hbytes' (a.eval x) n xs hown ⟨s.toArray⟩ (by rw [hsz]; unfold maxLen; omega) (by rw [hsz]; exact hbytes)
  rw [hsz,hsc] at h2
  refine ⟨v',w',?_,h2,h3,h4⟩
  unfold execOp
  simp only [ho,resolve,invoke,builtin,Sem.run_bind,Sem.run_pure,Result.andThen_ok,List.map_toArray,List.map_cons,List.map_nil,hyv,hrun']) hd (pl:=none) trivial
 refine h.loose.oper (fun c hc => by rw [ho] at hc; cases hc) ?_
 unfold Oper.wp
 rw [hrun]
 exact hK _ _ hrel

theorem gs_bytesOf {o:Oper} {st:St} {t u e:TypeId} {x:Operand} {s:List UInt8} (ho:o.op = .convert t u x) (hd:∀ d,o.dst = some d → d < st.n) (hs:tstr P t = true) (hu:telem P u = some e) (he:tint P e = some .u8) (hx:gev st x = .lit (.string ⟨s.toArray⟩)) (hl:s.length ≤ maxLen) :
  GS P o st (st.put o.dst (gBytes s)):=by
 intro cx a w K R ⟨β,h⟩ hK
 have hv:a.eval x = .string ⟨s.toArray⟩:=by have:=h.ev x; rw [hx] at this; exact this.lit_eq
 have hsz:(⟨s.toArray⟩:ByteArray).size = s.length:=by simp [ByteArray.size]
 have hr:=run_bytes_of_string (P:=P) w t u e ⟨s.toArray⟩ (tstr_spec hs) (telem_spec hu) (tint_spec he)
 have hrun:(execOp a.eval o).run P w = .ok (.value (.slice (some ⟨w.heap.size,0,none⟩) s.length (grownCap w s.length 0 e))) (w.drew.alloc (.cells (bytesRow ⟨s.toArray⟩ (grownCap w s.length 0 e)) e ((bytesRow ⟨s.toArray⟩ (grownCap w s.length 0 e)).size,(bytesRow ⟨s.toArray⟩ (grownCap w s.length 0 e)).size + 1))):=by
  unfold execOp
  simp only [ho,hv]
  rw [hsz] at hr
  simp only [Sem.run_bind,hr,Result.andThen_ok,Sem.run_pure]
 refine h.loose.oper (fun c hc => by rw [ho] at hc; cases hc) ?_
 unfold Oper.wp
 rw [hrun]
 have hk:Keeps (fun _ => False) w (w.drew.alloc (.cells (bytesRow ⟨s.toArray⟩ (grownCap w s.length 0 e)) e ((bytesRow ⟨s.toArray⟩ (grownCap w s.length 0 e)).size,(bytesRow ⟨s.toArray⟩ (grownCap w s.length 0 e)).size + 1))):=((Keeps.refl _ _).drew).alloc _
 refine hK _ _ ⟨β,(h.world hk).put o.dst hd (.imm _ _ ?_)⟩
 have hAv:¬ Av cx.S0 β st.σ w.heap.size:=by
  rintro (hb | ⟨i,ob,C,h1,h2⟩)
  ·have:=h.keep.lt (h.old _ hb); omega
  ·have:=h.lt h1 h2; omega
 have hmap:∀ (i:Nat) (hi:i < s.length),(bytesRow ⟨s.toArray⟩ (grownCap w s.length 0 e))[i]? = some (.int .u8 ((s.getD i 0).toNat:Int)):=by
  intro i hi
  unfold bytesRow
  rw [Array.getElem?_append_left (by simp; exact hi)]
  simp [hi]
 refine .sl _ _ _ _ (fun i => .int .u8 ((s.getD i 0).toNat:Int)) (grownCap_ge w s.length 0 e) (grownCap_le_maxLen w s.length 0 e hl) (fun i hi => ⟨w.heap.size,0,rfl,hAv,by simp,?_⟩) (fun _ _ => rfl) (fun i g hg => ?_)
 ·have hi':i < s.length:=by simpa using hi
  have:=World.cell?_alloc_mark w.drew (bytesRow ⟨s.toArray⟩ (grownCap w s.length 0 e)) e ((bytesRow ⟨s.toArray⟩ (grownCap w s.length 0 e)).size,(bytesRow ⟨s.toArray⟩ (grownCap w s.length 0 e)).size + 1) (0 + i)
  rw [Nat.zero_add] at this ⊢
  exact this.trans (hmap i hi')
 ·rw [List.getElem?_map] at hg
  obtain ⟨b,hb,rfl⟩:=Option.map_eq_some_iff.1 hg
  have:s.getD i 0 = b:=by rw [List.getD_eq_getElem?_getD,hb]; rfl
  rw [this]
  exact .lit _

theorem gs_stringOf {o:Oper} {st:St} {t u e:TypeId} {x:Operand} {s:List UInt8} (ho:o.op = .convert t u x) (hd:∀ d,o.dst = some d → d < st.n) (ht:telem P t = some e) (he:tint P e = some .u8) (hu:tstr P u = true) (hx:gview st.σ 1 (gev st x) = some (s.map gY,s.length)):GS P o st (st.put o.dst (.lit (.string ⟨s.toArray⟩))):=by
 intro cx a w K R ⟨β,h⟩ hK
 obtain ⟨A,c,news,hv,hnl,hnr,hnc⟩:=gview_run h (h.ev x) hx
 have hns:news = s.map fun b => Value.int .u8 (b.toNat:Int):=by
  apply List.ext_getElem?
  intro i
  by_cases hi:i < s.length
  ·have h1:news[i]? = some (news[i]'(by rw [hnl]; omega)):=List.getElem?_eq_getElem _
   have:=hnr.2.2 i (gY s[i]) _ (by simp [hi]) h1
   rw [h1,this.lit_eq]
   simp [hi]
  ·rw [List.getElem?_eq_none (by rw [hnl]; omega),List.getElem?_eq_none (by simp; omega)]
 have hconv:(convert t u (.slice A s.length c)).run P w = .ok (.string ⟨s.toArray⟩) w:=by
  cases A with
  | none =>
   have h0:s = []:=by
    cases s with
    | nil => rfl
    | cons b r =>
     obtain ⟨a',ha,_⟩:=hnc 0 (.int .u8 (b.toNat:Int)) (by rw [hns]; rfl)
     cases ha
   subst h0
   rw [run_convert_bytes_string w t u e none _ c (telem_spec ht) (tint_spec he) (tstr_spec hu)]
   simp [Conv.bytesToString]
   rfl
  | some a0 =>
   refine run_convert_bytes_back w t u e a0 c s (telem_spec ht) (tint_spec he) (tstr_spec hu) (fun j hj => ?_)
   obtain ⟨a',ha,hc⟩:=hnc j (.int .u8 (s[j].toNat:Int)) (by rw [hns]; simp [hj])
   cases ha
   exact hc
 have hrun:(execOp a.eval o).run P w = .ok (.value (.string ⟨s.toArray⟩)) w:=by
  unfold execOp
  simp only [ho,hv,Sem.run_bind,hconv,Result.andThen_ok,Sem.run_pure]
 refine h.loose.oper (fun c hc => by rw [ho] at hc; cases hc) ?_
 unfold Oper.wp
 rw [hrun]
 exact hK _ _ ⟨β,h.put o.dst hd (.imm _ _ (.lit _))⟩

theorem spure_underlying {t:TypeId} {d:TypeDesc} (h:P.underlying t = some d):spure P (underlying t) = some d:=by
 unfold underlying
 show spure P (match P.underlying t with | some d => pure d | none => stuck "no such type") = _
 rw [h]; rfl
theorem ev_conv {ρ:Operand → G} {σ:Sto} {d:Option Tmp} {s t ty:TypeId} {x:Operand} {pos:String} {af:Array Edge} {gd:Option (Nat × Bool)} {k k' k0:IntKind} {n:Int} (hx:ρ x = .lit (.int k n)) (hs:tint P s = some k0) (ht:tint P t = some k'):evVal P ρ σ ⟨d,.convert s t x,ty,pos,af,gd⟩ = some (.lit (.int k' (k'.wrap n))):=by
 have h1:=tint_spec hs
 have h2:=tint_spec ht
 have hc:spure P (convert s t (.int k n)) = some (.int k' (k'.wrap n)):=by
  unfold convert
  rw [spure_bind,spure_underlying h1,Option.bind_some,spure_bind,spure_underlying h2,Option.bind_some]
  rfl
 simp only [evVal,gplain]
 rw [if_pos (by simp [Op.operands,hx,gval])]
 simp only [execOp,hx,gval,Option.getD_some]
 have e:=spure_bind (p:=P) (convert s t (.int k n)) (fun r => (pure (Next.value r):Sem Next))
 rw [e,hc]
 rfl
theorem ev_min {ρ:Operand → G} {σ:Sto} {d:Option Tmp} {ats:Array TypeId} {ty:TypeId} {x y:Operand} {pos:String} {af:Array Edge} {gd:Option (Nat × Bool)} {k k':IntKind} {m n:Int} (hx:ρ x = .lit (.int k m)) (hy:ρ y = .lit (.int k' n)) :
  evVal P ρ σ ⟨d,.call { callee:=.builtin .min,args:=#[x,y],argTypes:=ats },ty,pos,af,gd⟩ = some (.lit (.int k (if n < m then n else m))):=by
 simp only [evVal,gplain]
 rw [if_pos (by simp [Op.operands,Call.operands,hx,hy,gval])]
 simp only [execOp,resolve,hx,hy,gval,Option.getD_some,List.map_toArray,List.map_cons,List.map_nil]
 rfl
theorem ev_max {ρ:Operand → G} {σ:Sto} {d:Option Tmp} {ats:Array TypeId} {ty:TypeId} {x y:Operand} {pos:String} {af:Array Edge} {gd:Option (Nat × Bool)} {k k':IntKind} {m n:Int} (hx:ρ x = .lit (.int k m)) (hy:ρ y = .lit (.int k' n)) :
  evVal P ρ σ ⟨d,.call { callee:=.builtin .max,args:=#[x,y],argTypes:=ats },ty,pos,af,gd⟩ = some (.lit (.int k (if n > m then n else m))):=by
 simp only [evVal,gplain]
 rw [if_pos (by simp [Op.operands,Call.operands,hx,hy,gval])]
 simp only [execOp,resolve,hx,hy,gval,Option.getD_some,List.map_toArray,List.map_cons,List.map_nil]
 rfl
theorem ev_lenS {ρ:Operand → G} {σ:Sto} {d:Option Tmp} {t ty:TypeId} {x:Operand} {pos:String} {af:Array Edge} {gd:Option (Nat × Bool)} {s:ByteArray} (hx:ρ x = .lit (.string s)) (ht:tstr P t = true) :
  evVal P ρ σ ⟨d,.call { callee:=.builtin .len,args:=#[x],argTypes:=#[t] },ty,pos,af,gd⟩ = some (.lit (.int .i64 s.size)):=by
 have h1:=tstr_spec ht
 have he:telem P t = none:=by simp [telem,h1]
 rw [ev_len,he]
 simp only [Option.isSome_none,Bool.false_eq_true,if_false,gplain]
 rw [if_pos (by simp [Op.operands,Call.operands,hx,gval])]
 have hl:spure P (Builtin.len_ #[t] ty #[.string s]) = some (.int .i64 s.size):=by
  unfold Builtin.len_
  show spure P (underlying t >>= _) = _
  rw [spure_bind,spure_underlying h1,Option.bind_some]
  rfl
 simp only [execOp,resolve,hx,gval,Option.getD_some,List.map_toArray,List.map_cons,List.map_nil,invoke,builtin]
 have e:=spure_bind (p:=P) (Builtin.len_ #[t] ty #[.string s]) (fun r => (pure (Next.value r):Sem Next))
 show (match spure P (Builtin.len_ #[t] ty #[.string s] >>= fun r => (pure (Next.value r):Sem Next)) with | some (.value v) => some (glit v) | _ => none) = _
 rw [e,hl]
 rfl

/-! ### calls -/
section
variable {ops:Array Oper} {K:St → Prop} {ty:TypeId} {pos:String} {af:Array Edge} {rest:List Oper} {n:Nat} {gl:List (Nat × List G)} {fr:Fr} {σ:Sto} {c p d fid:Nat} {xs:Array Operand} {ats:Array TypeId}
theorem run_c {gs:List G} {r:G} (hF:Fn' P gl fid gs r) (hc:callable P fid = true) (hd:d < n) (hg:xs.toList.map (gev ⟨n,gl,fr,σ,c,p,rr⟩) = gs) (hi:∀ g ∈ gs,ImmG g) (h:Run P ops K rest ⟨n,gl,(d,r) :: fr,σ,c,p,rr⟩) :
  Run P ops K (⟨some d,.call { callee:=.value (.func fid),args:=xs,argTypes:=ats },ty,pos,af,none⟩ :: rest) ⟨n,gl,fr,σ,c,p,rr⟩:=by
 subst hg
 exact .inl ⟨rfl,_,gs_call (fst:=[]) (cap:=[]) rfl (fun _ e => by cases e; exact hd) rfl hc (by simpa using hi) (by simpa using hF),h⟩
theorem rund_c {bars:List Nat} {j:Nat} {gs:List G} {r:G} (hF:Fn' P gl fid gs r) (hc:callable P fid = true) (hd:d < n) (hg:xs.toList.map (gev ⟨n,gl,fr,σ,c,p,rr⟩) = gs) (hi:∀ g ∈ gs,ImmG g) (h:RunD P ops bars K (j + 1) rest ⟨n,gl,(d,r) :: fr,σ,c,p,rr⟩) :
  RunD P ops bars K j (⟨some d,.call { callee:=.value (.func fid),args:=xs,argTypes:=ats },ty,pos,af,none⟩ :: rest) ⟨n,gl,fr,σ,c,p,rr⟩:=by
 subst hg
 exact .inl ⟨rfl,_,tg_call (fst:=[]) (cap:=[]) rfl (fun _ e => by cases e; exact hd) rfl hc (by simpa using hi) (by simpa using hF),h⟩
def FnR (P:Program) (gl:List (Nat × List G)) (f:FuncId) (gs:List G) (t:TypeId) (n:Nat) (l:List G):Prop:=FnM P gl f gs [] 0 0 (.rsl 0 0 n) [(0,some ⟨t,l,none⟩)]
theorem run_cR {gs:List G} {t:TypeId} {m:Nat} {l:List G} (hF:FnR P gl fid gs t m l) (hc:callable P fid = true) (hd:d < n) (hg:xs.toList.map (gev ⟨n,gl,fr,σ,c,p,rr⟩) = gs) (hi:∀ g ∈ gs,ImmG g) (hl:∀ g ∈ l,ImmG g) (hfr:∀ i ob,sget σ i = some ob → i < c) (h:Run P ops K rest ⟨n,gl,(d,.rsl c 0 m) :: fr,(c,some ⟨t,l,none⟩) :: σ,c + 1,p,rr⟩) :
  Run P ops K (⟨some d,.call { callee:=.value (.func fid),args:=xs,argTypes:=ats },ty,pos,af,none⟩ :: rest) ⟨n,gl,fr,σ,c,p,rr⟩:=by
 subst hg
 refine .inl ⟨rfl,_,gs_callM (fst:=[]) (cap:=[]) (σ':=(c,some ⟨t,l,none⟩) :: σ) (c':=c + 1) (r':=.rsl c 0 m) [] [(c,0)] [] rfl (fun _ e => by cases e; exact hd) rfl hc hF (by simp) (fun i g g' h1 h2 => ?_) (by simp [rho]) (by simp) vwst_nil (Nat.le_succ _) (fun k i hk hlt => ?_) (fun k k' i h1 h2 => ?_) (by simp) (fun k ob' hk => ?_) (rn_rsl (by simp [rho])),h⟩
 ·simp only [List.nil_append,List.append_nil] at h1
  rw [h1] at h2; cases h2
  exact vw_imm (hi g (List.mem_of_getElem? h1))
 ·have:=rho_key hk
  simp at this
  simp at hlt
  omega
 ·have a1:=rho_key h1
  have a2:=rho_key h2
  simp at a1 a2
  omega
 ·rw [sget_cons] at hk
  split at hk
  ·cases hk
   subst_vars
   refine .inl ⟨0,⟨t,l,none⟩,by simp [rho],rfl,rfl,Nat.le_refl _,fun e => e,⟨rfl,rfl⟩,fun x g g' h1 h2 => ?_⟩
   rw [h1] at h2; cases h2
   exact rn_imm (hl g (List.mem_of_getElem? h1))
  ·rename_i hne
   refine .inr ⟨?_,hk,by simp,by simp⟩
   simp only [rho,List.lookup]
   have:(k == c) = false:=by simpa using fun e => hne e.symm
   rw [this]
end
end
end
section
open Go.RowKit
section
variable {P:Program} {rr:Bool}

def gbs (P:Program) (t:TypeId) (m:Nat) (parts:List (Nat × G)):Option (TypeId × List G) :=
 (telem P t).bind fun e => (tsize P e).bind fun s => (tzero P e).bind fun zs => if zs.length = s ∧ m * s ≤ 16777216 ∧ m ≤ 1000000 then (gfill (fun i => some (i * s,s)) ((gzeros zs (m * s)).map .lit) parts).map fun l => (e,l) else none
theorem gs_bsP {pl:Option Nat} {o:Oper} {st:St} {t e:TypeId} {m:Nat} {parts:Array (Nat × Operand)} {l:List G} (ho:o.op = .buildSlice t m parts) (hd:∀ d,o.dst = some d → d < st.n) (hg:gbs P t m (parts.toList.map fun p => (p.1,gev st p.2)) = some (e,l)) (hpl:plOk st pl):GS P o st (st.newP pl o.dst e l (.rsl (plNum st pl) 0 m)):=by
 simp only [gbs,Option.bind_eq_some_iff] at hg
 obtain ⟨e',he,s,hs,zs,hz,hg⟩:=hg
 split at hg
 ·rename_i hc
  simp only [Option.map_eq_some_iff,Prod.mk.injEq] at hg
  obtain ⟨l',hl,rfl,rfl⟩:=hg
  exact gs_buildSliceP ho hd he hs hz hc.1 hc.2.1 hc.2.2 hl hpl
 ·cases hg
theorem gs_bs {o:Oper} {st:St} {t e:TypeId} {m:Nat} {parts:Array (Nat × Operand)} {l:List G} (ho:o.op = .buildSlice t m parts) (hd:∀ d,o.dst = some d → d < st.n) (hg:gbs P t m (parts.toList.map fun p => (p.1,gev st p.2)) = some (e,l)):GS P o st (st.new o.dst e l (.rsl st.c 0 m)):=gs_bsP (pl:=none) ho hd hg trivial
def gapp (P:Program) (σ:Sto) (c:Nat) (t:TypeId) (gx gy:G):Option (TypeId × Nat × Nat × List G) :=
 (telem P t).bind fun e => (tsize P e).bind fun s => (tzero P e).bind fun zs => ((P.info? e).map (·.bytes)).bind fun b => (gsrc σ c e s gx).bind fun (i,n,l) => (gview σ s gy).bind fun (news,m) =>
  if 0 < s ∧ zs.length = s ∧ n + m ≤ 9223372036854775807 ∧ (n + m) * b ≤ 140737488355328 then some (e,i,n + m,l ++ news) else none
theorem gs_appP {pl:Option Nat} {o:Oper} {st:St} {t e:TypeId} {x y:Operand} {i m:Nat} {l:List G} (ho:o.op = .call { callee:=.builtin .append,args:=#[x,y],argTypes:=#[t,t] }) (hd:∀ d,o.dst = some d → d < st.n) (hg:gapp P st.σ st.c t (gev st x) (gev st y) = some (e,i,m,l)) (hpl:plOk st pl) :
  GS P o st ({ st with σ:=(plNum st pl,some ⟨e,l,none⟩) :: (i,none) :: st.σ,c:=plC st pl }.put o.dst (.rsl (plNum st pl) 0 m)):=by
 simp only [gapp,Option.bind_eq_some_iff] at hg
 obtain ⟨e',he,s,hs,zs,hz,b,hb,⟨i',n,l'⟩,hx,⟨news,m'⟩,hy,hg⟩:=hg
 split at hg
 ·rename_i hc
  simp only [Option.some.injEq,Prod.mk.injEq] at hg
  obtain ⟨rfl,rfl,rfl,rfl⟩:=hg
  exact gs_appendP ho hd he hs hc.1 hz hc.2.1 hb hx hy (by unfold maxLen; exact hc.2.2.1) hc.2.2.2 hpl
 ·cases hg
theorem gs_app {o:Oper} {st:St} {t e:TypeId} {x y:Operand} {i m:Nat} {l:List G} (ho:o.op = .call { callee:=.builtin .append,args:=#[x,y],argTypes:=#[t,t] }) (hd:∀ d,o.dst = some d → d < st.n) (hg:gapp P st.σ st.c t (gev st x) (gev st y) = some (e,i,m,l)) :
  GS P o st ({ st with σ:=(st.c,some ⟨e,l,none⟩) :: (i,none) :: st.σ,c:=st.c + 1 }.put o.dst (.rsl st.c 0 m)):=gs_appP (pl:=none) ho hd hg trivial

section
variable {ops:Array Oper} {K:St → Prop} {ty:TypeId} {pos:String} {af:Array Edge} {rest:List Oper} {n:Nat} {gl:List (Nat × List G)} {fr:Fr} {σ:Sto} {c p d j:Nat} {bars:List Nat}
theorem run_e {o:Oper} {st st1:St} (hg:o.guard = none) (hs:GS P o st st1) (h:Run P ops K rest st1):Run P ops K (o :: rest) st:=.inl ⟨by simp [gwant,hg],_,hs,h⟩
theorem rund_e {o:Oper} {st:St} {g:G} {σ':Sto} {c':Nat} (hb:bars.contains j = true) (hg:o.guard = none) (hs:GS P o st ({ st with σ:=σ',c:=c' }.put o.dst g)) (h:RunD P ops bars K (j + 1) rest ({ st with σ:=σ',c:=c' }.put o.dst g)):RunD P ops bars K j (o :: rest) st:=.inr (.inr ⟨hb,by simp [gwant,hg],g,σ',c',hs,h⟩)

theorem run_bs {t e:TypeId} {m:Nat} {parts:Array (Nat × Operand)} {l:List G} (hg:gbs P t m (parts.toList.map fun q => (q.1,gev ⟨n,gl,fr,σ,c,p,rr⟩ q.2)) = some (e,l)) (hd:d < n) (h:Run P ops K rest ⟨n,gl,(d,.rsl c 0 m) :: fr,(c,some ⟨e,l,none⟩) :: σ,c + 1,p,rr⟩) :
  Run P ops K (⟨some d,.buildSlice t m parts,ty,pos,af,none⟩ :: rest) ⟨n,gl,fr,σ,c,p,rr⟩:=run_e rfl (gs_bs rfl (fun _ e => by cases e; exact hd) hg) h
theorem rund_bs {t e:TypeId} {m:Nat} {parts:Array (Nat × Operand)} {l:List G} (hb:bars.contains j = true) (hg:gbs P t m (parts.toList.map fun q => (q.1,gev ⟨n,gl,fr,σ,c,p,rr⟩ q.2)) = some (e,l)) (hd:d < n) (h:RunD P ops bars K (j + 1) rest ⟨n,gl,(d,.rsl c 0 m) :: fr,(c,some ⟨e,l,none⟩) :: σ,c + 1,p,rr⟩) :
  RunD P ops bars K j (⟨some d,.buildSlice t m parts,ty,pos,af,none⟩ :: rest) ⟨n,gl,fr,σ,c,p,rr⟩:=rund_e (σ':=(c,some ⟨e,l,none⟩) :: σ) (c':=c + 1) hb rfl (gs_bs rfl (fun _ e => by cases e; exact hd) hg) h
theorem run_app {t e:TypeId} {x y:Operand} {i m:Nat} {l:List G} (hg:gapp P σ c t (gev ⟨n,gl,fr,σ,c,p,rr⟩ x) (gev ⟨n,gl,fr,σ,c,p,rr⟩ y) = some (e,i,m,l)) (hd:d < n) (h:Run P ops K rest ⟨n,gl,(d,.rsl c 0 m) :: fr,(c,some ⟨e,l,none⟩) :: (i,none) :: σ,c + 1,p,rr⟩) :
  Run P ops K (⟨some d,.call { callee:=.builtin .append,args:=#[x,y],argTypes:=#[t,t] },ty,pos,af,none⟩ :: rest) ⟨n,gl,fr,σ,c,p,rr⟩:=run_e rfl (gs_app rfl (fun _ e => by cases e; exact hd) hg) h
theorem rund_app {t e:TypeId} {x y:Operand} {i m:Nat} {l:List G} (hb:bars.contains j = true) (hg:gapp P σ c t (gev ⟨n,gl,fr,σ,c,p,rr⟩ x) (gev ⟨n,gl,fr,σ,c,p,rr⟩ y) = some (e,i,m,l)) (hd:d < n) (h:RunD P ops bars K (j + 1) rest ⟨n,gl,(d,.rsl c 0 m) :: fr,(c,some ⟨e,l,none⟩) :: (i,none) :: σ,c + 1,p,rr⟩) :
  RunD P ops bars K j (⟨some d,.call { callee:=.builtin .append,args:=#[x,y],argTypes:=#[t,t] },ty,pos,af,none⟩ :: rest) ⟨n,gl,fr,σ,c,p,rr⟩:=rund_e (σ':=(c,some ⟨e,l,none⟩) :: (i,none) :: σ) (c':=c + 1) hb rfl (gs_app rfl (fun _ e => by cases e; exact hd) hg) h
theorem run_build {t:TypeId} {parts:Array (Nat × Operand)} {g:G} (hg:gbuild P t (parts.toList.map fun q => (q.1,gev ⟨n,gl,fr,σ,c,p,rr⟩ q.2)) = some g) (hd:d < n) (h:Run P ops K rest ⟨n,gl,(d,g) :: fr,σ,c,p,rr⟩) :
  Run P ops K (⟨some d,.build t parts,ty,pos,af,none⟩ :: rest) ⟨n,gl,fr,σ,c,p,rr⟩:=run_e rfl (gs_build rfl (fun _ e => by cases e; exact hd) hg) h
theorem rund_build {t:TypeId} {parts:Array (Nat × Operand)} {g:G} (hg:gbuild P t (parts.toList.map fun q => (q.1,gev ⟨n,gl,fr,σ,c,p,rr⟩ q.2)) = some g) (hd:d < n) (h:RunD P ops bars K (j + 1) rest ⟨n,gl,(d,g) :: fr,σ,c,p,rr⟩) :
  RunD P ops bars K j (⟨some d,.build t parts,ty,pos,af,none⟩ :: rest) ⟨n,gl,fr,σ,c,p,rr⟩:=.inl ⟨rfl,_,tg_build rfl (fun _ e => by cases e; exact hd) hg,h⟩
def gconv (P:Program) (s t:TypeId):G → Option G
 | .lit (.int _ n) => (tint P s).bind fun _ => (tint P t).bind fun k => some (.lit (.int k (k.wrap n)))
 | _ => none
def gmin2:G → G → Option G
 | .lit (.int k m),.lit (.int _ n) => some (.lit (.int k (if n < m then n else m)))
 | _,_ => none
def gmax2:G → G → Option G
 | .lit (.int k m),.lit (.int _ n) => some (.lit (.int k (if n > m then n else m)))
 | _,_ => none
def glenS (P:Program) (t:TypeId):G → Option G
 | .lit (.string s) => if tstr P t = true then some (.lit (.int .i64 s.size)) else none
 | _ => none
theorem ev_conv' {ρ:Operand → G} {d:Option Tmp} {s t ty:TypeId} {x:Operand} {pos:String} {af:Array Edge} {gd:Option (Nat × Bool)} {g:G} (h:gconv P s t (ρ x) = some g):evVal P ρ σ ⟨d,.convert s t x,ty,pos,af,gd⟩ = some g:=by
 unfold gconv at h
 split at h
 ·rename_i k n hx
  simp only [Option.bind_eq_some_iff] at h
  obtain ⟨k0,h1,k',h2,h3⟩:=h
  rw [ev_conv hx h1 h2]; exact h3
 ·cases h
theorem ev_min' {ρ:Operand → G} {d:Option Tmp} {ats:Array TypeId} {ty:TypeId} {x y:Operand} {pos:String} {af:Array Edge} {gd:Option (Nat × Bool)} {g:G} (h:gmin2 (ρ x) (ρ y) = some g):evVal P ρ σ ⟨d,.call { callee:=.builtin .min,args:=#[x,y],argTypes:=ats },ty,pos,af,gd⟩ = some g:=by
 unfold gmin2 at h
 split at h
 ·rename_i hx hy; rw [ev_min hx hy]; exact h
 ·cases h
theorem ev_max' {ρ:Operand → G} {d:Option Tmp} {ats:Array TypeId} {ty:TypeId} {x y:Operand} {pos:String} {af:Array Edge} {gd:Option (Nat × Bool)} {g:G} (h:gmax2 (ρ x) (ρ y) = some g):evVal P ρ σ ⟨d,.call { callee:=.builtin .max,args:=#[x,y],argTypes:=ats },ty,pos,af,gd⟩ = some g:=by
 unfold gmax2 at h
 split at h
 ·rename_i hx hy; rw [ev_max hx hy]; exact h
 ·cases h
theorem ev_lenS' {ρ:Operand → G} {d:Option Tmp} {t ty:TypeId} {x:Operand} {pos:String} {af:Array Edge} {gd:Option (Nat × Bool)} {g:G} (h:glenS P t (ρ x) = some g):evVal P ρ σ ⟨d,.call { callee:=.builtin .len,args:=#[x],argTypes:=#[t] },ty,pos,af,gd⟩ = some g:=by
 unfold glenS at h
 split at h
 ·rename_i s hx
  split at h
  ·rename_i ht; rw [ev_lenS hx ht]; exact h
  ·cases h
 ·cases h
theorem run_conv {s t:TypeId} {x:Operand} {g:G} (hg:gconv P s t (gev ⟨n,gl,fr,σ,c,p,rr⟩ x) = some g) (hd:d < n) (h:Run P ops K rest ⟨n,gl,(d,g) :: fr,σ,c,p,rr⟩):Run P ops K (⟨some d,Op.convert s t x,ty,pos,af,none⟩ :: rest) ⟨n,gl,fr,σ,c,p,rr⟩:=run_v (ev_conv' hg) hd h
theorem rund_conv {s t:TypeId} {x:Operand} {g:G} (hg:gconv P s t (gev ⟨n,gl,fr,σ,c,p,rr⟩ x) = some g) (hd:d < n) (h:RunD P ops bars K (j + 1) rest ⟨n,gl,(d,g) :: fr,σ,c,p,rr⟩):RunD P ops bars K j (⟨some d,Op.convert s t x,ty,pos,af,none⟩ :: rest) ⟨n,gl,fr,σ,c,p,rr⟩:=rund_v (ev_conv' hg) hd h
theorem run_min {ats:Array TypeId} {x y:Operand} {g:G} (hg:gmin2 (gev ⟨n,gl,fr,σ,c,p,rr⟩ x) (gev ⟨n,gl,fr,σ,c,p,rr⟩ y) = some g) (hd:d < n) (h:Run P ops K rest ⟨n,gl,(d,g) :: fr,σ,c,p,rr⟩):Run P ops K (⟨some d,Op.call { callee:=.builtin .min,args:=#[x,y],argTypes:=ats },ty,pos,af,none⟩ :: rest) ⟨n,gl,fr,σ,c,p,rr⟩:=run_v (ev_min' hg) hd h
theorem rund_min {ats:Array TypeId} {x y:Operand} {g:G} (hg:gmin2 (gev ⟨n,gl,fr,σ,c,p,rr⟩ x) (gev ⟨n,gl,fr,σ,c,p,rr⟩ y) = some g) (hd:d < n) (h:RunD P ops bars K (j + 1) rest ⟨n,gl,(d,g) :: fr,σ,c,p,rr⟩):RunD P ops bars K j (⟨some d,Op.call { callee:=.builtin .min,args:=#[x,y],argTypes:=ats },ty,pos,af,none⟩ :: rest) ⟨n,gl,fr,σ,c,p,rr⟩:=rund_v (ev_min' hg) hd h
theorem run_max {ats:Array TypeId} {x y:Operand} {g:G} (hg:gmax2 (gev ⟨n,gl,fr,σ,c,p,rr⟩ x) (gev ⟨n,gl,fr,σ,c,p,rr⟩ y) = some g) (hd:d < n) (h:Run P ops K rest ⟨n,gl,(d,g) :: fr,σ,c,p,rr⟩):Run P ops K (⟨some d,Op.call { callee:=.builtin .max,args:=#[x,y],argTypes:=ats },ty,pos,af,none⟩ :: rest) ⟨n,gl,fr,σ,c,p,rr⟩:=run_v (ev_max' hg) hd h
theorem rund_max {ats:Array TypeId} {x y:Operand} {g:G} (hg:gmax2 (gev ⟨n,gl,fr,σ,c,p,rr⟩ x) (gev ⟨n,gl,fr,σ,c,p,rr⟩ y) = some g) (hd:d < n) (h:RunD P ops bars K (j + 1) rest ⟨n,gl,(d,g) :: fr,σ,c,p,rr⟩):RunD P ops bars K j (⟨some d,Op.call { callee:=.builtin .max,args:=#[x,y],argTypes:=ats },ty,pos,af,none⟩ :: rest) ⟨n,gl,fr,σ,c,p,rr⟩:=rund_v (ev_max' hg) hd h
theorem run_lenS {t:TypeId} {x:Operand} {g:G} (hg:glenS P t (gev ⟨n,gl,fr,σ,c,p,rr⟩ x) = some g) (hd:d < n) (h:Run P ops K rest ⟨n,gl,(d,g) :: fr,σ,c,p,rr⟩):Run P ops K (⟨some d,Op.call { callee:=.builtin .len,args:=#[x],argTypes:=#[t] },ty,pos,af,none⟩ :: rest) ⟨n,gl,fr,σ,c,p,rr⟩:=run_v (ev_lenS' hg) hd h
theorem rund_lenS {t:TypeId} {x:Operand} {g:G} (hg:glenS P t (gev ⟨n,gl,fr,σ,c,p,rr⟩ x) = some g) (hd:d < n) (h:RunD P ops bars K (j + 1) rest ⟨n,gl,(d,g) :: fr,σ,c,p,rr⟩):RunD P ops bars K j (⟨some d,Op.call { callee:=.builtin .len,args:=#[x],argTypes:=#[t] },ty,pos,af,none⟩ :: rest) ⟨n,gl,fr,σ,c,p,rr⟩:=rund_v (ev_lenS' hg) hd h
def gbox (P:Program) (t:TypeId) (g:G):Option (List G):=(gcells g).bind fun l => (tsize P t).bind fun s => if l.length = s then some l else none
theorem run_box {t:TypeId} {x:Operand} {l:List G} (hg:gbox P t (gev ⟨n,gl,fr,σ,c,p,rr⟩ x) = some l) (hd:d < n) (h:Run P ops K rest ⟨n,gl,(d,.ref c 0) :: fr,(c,some ⟨t,l,none⟩) :: σ,c + 1,p,rr⟩) :
  Run P ops K (⟨some d,.box t x,ty,pos,af,none⟩ :: rest) ⟨n,gl,fr,σ,c,p,rr⟩:=by
 simp only [gbox,Option.bind_eq_some_iff] at hg
 obtain ⟨l',h1,s,h2,hg⟩:=hg
 split at hg
 ·simp only [Option.some.injEq] at hg
  subst hg
  exact run_e rfl (gs_box rfl (fun _ e => by cases e; exact hd) h1 (by rw [tsz_of h2]; assumption)) h
 ·cases hg
def galloc (P:Program) (t:TypeId):Option (List G):=(tzero P t).bind fun zs => (tsize P t).bind fun s => if zs.length = s then some (zs.map .lit) else none
theorem run_alloc {t:TypeId} {l:List G} (hg:galloc P t = some l) (hd:d < n) (h:Run P ops K rest ⟨n,gl,(d,.ref c 0) :: fr,(c,some ⟨t,l,none⟩) :: σ,c + 1,p,rr⟩) :
  Run P ops K (⟨some d,.alloc t,ty,pos,af,none⟩ :: rest) ⟨n,gl,fr,σ,c,p,rr⟩:=by
 simp only [galloc,Option.bind_eq_some_iff] at hg
 obtain ⟨zs,h1,s,h2,hg⟩:=hg
 split at hg
 ·simp only [Option.some.injEq] at hg
  subst hg
  exact run_e rfl (gs_alloc rfl (fun _ e => by cases e; exact hd) h1 (by rw [tsz_of h2]; assumption)) h
 ·cases hg
def gsto (P:Program) (σ:Sto) (t:TypeId) (gx gy:G):Option (Nat × Ob):=match gx with
 | .ref i k => (sget σ i).bind fun ob => (gcells gy).bind fun l => (tsize P t).bind fun s => if l.length = s ∧ k + s ≤ ob.l.length ∧ ob.x.isNone = true then some (i,⟨ob.t,ob.l.take k ++ l ++ ob.l.drop (k + s),none⟩) else none
 | _ => none
theorem gs_sto {o:Oper} {st:St} {t:TypeId} {x y:Operand} {i:Nat} {ob:Ob} (ho:o.op = .store t x y) (hd:∀ d,o.dst = some d → d < st.n) (hg:gsto P st.σ t (gev st x) (gev st y) = some (i,ob)):GS P o st ({ st with σ:=(i,some ob) :: st.σ }.put o.dst (.lit undef)):=by
 unfold gsto at hg
 split at hg
 ·rename_i i' k hx
  simp only [Option.bind_eq_some_iff] at hg
  obtain ⟨ob',h1,l,h2,s,h3,hg⟩:=hg
  split at hg
  ·rename_i hc
   simp only [Option.some.injEq,Prod.mk.injEq] at hg
   obtain ⟨rfl,rfl⟩:=hg
   exact gs_store ho hd hx h1 (Option.isNone_iff_eq_none.1 hc.2.2) h2 h3 hc.1 hc.2.1
  ·cases hg
 ·cases hg
theorem run_sto {t:TypeId} {x y:Operand} {i:Nat} {ob:Ob} (hg:gsto P σ t (gev ⟨n,gl,fr,σ,c,p,rr⟩ x) (gev ⟨n,gl,fr,σ,c,p,rr⟩ y) = some (i,ob)) (h:Run P ops K rest ⟨n,gl,fr,(i,some ob) :: σ,c,p,rr⟩) :
  Run P ops K (⟨none,.store t x y,ty,pos,af,none⟩ :: rest) ⟨n,gl,fr,σ,c,p,rr⟩:=run_e rfl (gs_sto rfl (fun _ e => by cases e) hg) h
theorem rund_sto {t:TypeId} {x y:Operand} {i:Nat} {ob:Ob} (hb:bars.contains j = true) (hg:gsto P σ t (gev ⟨n,gl,fr,σ,c,p,rr⟩ x) (gev ⟨n,gl,fr,σ,c,p,rr⟩ y) = some (i,ob)) (h:RunD P ops bars K (j + 1) rest ⟨n,gl,fr,(i,some ob) :: σ,c,p,rr⟩) :
  RunD P ops bars K j (⟨none,.store t x y,ty,pos,af,none⟩ :: rest) ⟨n,gl,fr,σ,c,p,rr⟩:=rund_e (g:=.lit undef) (σ':=(i,some ob) :: σ) (c':=c) hb rfl (gs_sto rfl (fun _ e => by cases e) hg) h
end

theorem fnr_enter {gl:List (Nat × List G)} {f:FuncId} {fn:Func} {cd:Code} {gs:List G} {t:TypeId} {m:Nat} {l:List G} (hf:P.funcs[f]? = some fn) (hb:fn.body = some cd) (hn:gs.length ≤ fn.ntmps) (h:Tr P cd (St.enter fn gl gs) (EndM P fn (.rsl 0 0 m) [(0,some ⟨t,l,none⟩)])):FnR P gl f gs t m l :=
 fnm_enter hf hb hn (fun i hi => by omega) h
theorem endR {fn:Func} {t:TypeId} {m i:Nat} {l:List G} {st:St} {u:Tmp} (hp:st.p = 0) (h:fn.results = #[.tmp u]) (hv:fget st.fr u = .rsl i 0 m) (ho:sget st.σ i = some ⟨t,l,none⟩) (hl:∀ g ∈ l,ImmG g) {e:Exit} (he:e = .normal ∨ e = .ret):EndM P fn (.rsl 0 0 m) [(0,some ⟨t,l,none⟩)] e st :=
 ⟨he,[.rsl i 0 m],[(0,i)],by rw [h]; simp [gres,hv],fun k hk => by omega,fun a b j h1 h2 => by
  have a1:=rho_key h1
  have a2:=rho_key h2
  simp at a1 a2
  omega,wk_rsl (by simp [rho]),wkst_cons (j:=i) (by simp [rho]) ho rfl rfl (Nat.le_refl _) (wk_all hl) wkst_nil⟩
theorem FnR.fn {gl:List (Nat × List G)} {f:FuncId} {gs:List G} {t:TypeId} {m s:Nat} {l:List G} (h:FnR P gl f gs t m l) (hs:tsize P t = some s) (hl:l.length = m * s) (hi:∀ g ∈ l,ImmG g):Fn' P gl f gs (.sl l m):=by
 intro w S vs hS hG hsz hvs
 have hav:∀ b,Av S (fun _ => none) [] b → S b:=by
  rintro b (hx | ⟨i,ob,C,ho,_⟩)
  ·exact hx
  ·cases ho
 refine (h w (fun _ => none) S vs hS (fun _ _ => rfl) (fun g l hl => (hG g l hl).sub fun b _ hb => hav b hb) ⟨fun i o ho => (by cases ho),fun i j o o' b C D hi => (by cases hi),fun i o b C hi => (by cases hi)⟩ hsz (fun i g u hg hu => .imm _ _ ((hvs i g u hg hu).sub fun b _ hb => hav b hb))).mono ?_
 rintro e w' ⟨v,β',rfl,M⟩
 have hk:Keeps (fun _ => False) w w':=M.keep.mono fun b _ hb => by
  obtain ⟨i,ob,C,ho,_⟩:=hb
  cases ho
 refine ⟨v,rfl,?_,hk⟩
 have hv:=M.val
 have ho:sget [((0:Nat),some (⟨t,l,none⟩:Ob))] 0 = some ⟨t,l,none⟩:=rfl
 rcases hv.rsl_form with ⟨hb,rfl,rfl⟩ | ⟨b,C,o',cap,hb,rfl,hn,hm,ho',hC⟩
 ·have:l = []:=List.eq_nil_of_length_eq_zero (by simpa using hl)
  subst this
  exact .sl [] 0 none 0 (fun _ => undef) (Nat.le_refl _) (Nat.zero_le _) (by simp) (by simp) (by simp)
 ·obtain ⟨us,hc⟩:=(M.rs.ob 0 _ ho).cells hb
  have hlt:b < w'.heap.size:=by
   rcases (M.rs.ob 0 _ ho).at with h1 | ⟨b',C',cur,h1,h2,_⟩
   ·rw [h1] at hb; cases hb
   ·rw [h1] at hb; cases hb; exact (Array.getElem?_eq_some_iff.1 h2).1
  refine .sl l m _ cap us hn hm (fun j hj => ?_) (fun j hj => hc.2.1 _ hj) (fun j g' hg' => ?_)
  ·have e:=(hC rfl).2
   subst e
   exact ⟨b,0,rfl,M.rs.sep 0 _ b C ho hb,hlt,by have:=hc.1 j hj; rw [Nat.zero_add] at this ⊢; exact this⟩
  ·exact (hi g' (List.mem_of_getElem? hg') _ _ _ _ (hc.2.2 _ _ hg')).sub fun b' _ hb' => .inl hb'

theorem tr_virt {n:Nat} {gl:List (Nat × List G)} {fr:Fr} {σ:Sto} {c p:Nat} {cd:Code} {Q:Exit → St → Prop} (t:TypeId) (d:Nat) (hd:d < n) (hv:fget fr d = .lit (.slice none 0 0)) (h:Tr P cd ⟨n,gl,(d,.rsl c 0 0) :: fr,(c,some ⟨t,[],none⟩) :: σ,c + 1,p,rr⟩ Q):Tr P cd ⟨n,gl,fr,σ,c,p,rr⟩ Q :=
 h.le (le_virt t hd hv)
theorem le_to {n:Nat} {gl:List (Nat × List G)} {fr fr':Fr} {σ σ':Sto} {c c' p:Nat} (ρ:List (Nat × Nat)) (hnd:(ρ.map (·.2)).Nodup) (hc:∀ q ∈ ρ,q.1 < c') (hp:∀ i,i < p → rho ρ i = some i) (hfr:WkFr P ⟨n,gl,fr,σ,c,p,rr⟩ ρ fr') (hst:WkSt P ⟨n,gl,fr,σ,c,p,rr⟩ ρ σ'):Le P ⟨n,gl,fr,σ,c,p,rr⟩ ⟨n,gl,fr',σ',c',p,rr⟩:=by
 refine le_weaken ρ rfl rfl rfl hp (fun i i' j h1 h2 => ?_) hc hfr hst
 have a1:=rho_key h1
 have a2:=rho_key h2
 clear h1 h2 hfr hst hp hc
 induction ρ with
 | nil => cases a1
 | cons q r ih =>
  simp only [List.map_cons,List.nodup_cons,List.mem_map] at hnd
  rcases List.mem_cons.1 a1 with e1 | e1 <;> rcases List.mem_cons.1 a2 with e2 | e2
  ·rw [← e1] at e2; cases e2; rfl
  ·exact absurd ⟨_,e2,by rw [← e1]⟩ hnd.1
  ·exact absurd ⟨_,e1,by rw [← e2]⟩ hnd.1
  ·exact ih hnd.2 e1 e2
theorem wkst_eq {st:St} {ρ:List (Nat × Nat)} {i j:Nat} {t:TypeId} {l l0:List G} {σ:Sto} (h1:rho ρ i = some j) (h2:sget st.σ j = some ⟨t,l0,none⟩) (he:l0 = l) (hi:∀ g ∈ l,ImmG g) (hr:WkSt P st ρ σ):WkSt P st ρ ((i,some ⟨t,l,none⟩) :: σ):=by
 subst he
 exact wkst_cons h1 h2 rfl rfl (Nat.le_refl _) (wk_all hi) hr
end
end
theorem wW {G X:Prop} (k:X) (h:X → G:=by intro hx; (repeat' (first | apply tr_seq | apply tr_region | apply run_nil | apply thn_n | apply thn_e | apply thn_r | apply blk_e | apply blk_n | apply blk_r | (refine blk_ne ?_ ?_; decide) | apply tr_block | apply tr_skip | apply tr_label | apply tr_exit | apply tr_ret | (refine tr_region_draw (bars:=[]) mixed (by kernel_rfl) ?_) | apply rund_nil | (apply run_v; simp (disch:=omega) [if_pos]; (first | rfl | exact ⟨rfl,rfl⟩ | exact ⟨rfl,rfl,rfl,rfl⟩); decide) | (apply rund_v; simp (disch:=omega) [if_pos]; (first | rfl | exact ⟨rfl,rfl⟩ | exact ⟨rfl,rfl,rfl,rfl⟩); decide) | (apply run_conv; simp (disch:=omega) [if_pos]; (first | rfl | exact ⟨rfl,rfl⟩ | exact ⟨rfl,rfl,rfl,rfl⟩); decide) | (apply rund_conv; simp (disch:=omega) [if_pos]; (first | rfl | exact ⟨rfl,rfl⟩ | exact ⟨rfl,rfl,rfl,rfl⟩); decide) | (apply run_min; simp (disch:=omega) [if_pos]; (first | rfl | exact ⟨rfl,rfl⟩ | exact ⟨rfl,rfl,rfl,rfl⟩); decide) | (apply rund_min; simp (disch:=omega) [if_pos]; (first | rfl | exact ⟨rfl,rfl⟩ | exact ⟨rfl,rfl,rfl,rfl⟩); decide) | (apply run_max; simp (disch:=omega) [if_pos]; (first | rfl | exact ⟨rfl,rfl⟩ | exact ⟨rfl,rfl,rfl,rfl⟩); decide) | (apply rund_max; simp (disch:=omega) [if_pos]; (first | rfl | exact ⟨rfl,rfl⟩ | exact ⟨rfl,rfl,rfl,rfl⟩); decide) | (apply run_lenS; simp (disch:=omega) [if_pos]; (first | rfl | exact ⟨rfl,rfl⟩ | exact ⟨rfl,rfl,rfl,rfl⟩); decide) | (apply rund_lenS; simp (disch:=omega) [if_pos]; (first | rfl | exact ⟨rfl,rfl⟩ | exact ⟨rfl,rfl,rfl,rfl⟩); decide) | (apply run_bs; simp (disch:=omega) [if_pos]; (first | rfl | exact ⟨rfl,rfl⟩ | exact ⟨rfl,rfl,rfl,rfl⟩); decide) | (apply run_app; simp (disch:=omega) [if_pos]; (first | rfl | exact ⟨rfl,rfl⟩ | exact ⟨rfl,rfl,rfl,rfl⟩); decide) | (apply run_build; simp (disch:=omega) [if_pos]; (first | rfl | exact ⟨rfl,rfl⟩ | exact ⟨rfl,rfl,rfl,rfl⟩); decide) | (apply run_box; simp (disch:=omega) [if_pos]; (first | rfl | exact ⟨rfl,rfl⟩ | exact ⟨rfl,rfl,rfl,rfl⟩); decide) | (apply run_alloc; simp (disch:=omega) [if_pos]; (first | rfl | exact ⟨rfl,rfl⟩ | exact ⟨rfl,rfl,rfl,rfl⟩); decide) | (apply rund_build; simp (disch:=omega) [if_pos]; (first | rfl | exact ⟨rfl,rfl⟩ | exact ⟨rfl,rfl,rfl,rfl⟩); decide) | (apply run_sto; simp (disch:=omega) [if_pos]; rfl) | (apply rund_bs; decide; simp (disch:=omega) [if_pos]; (first | rfl | exact ⟨rfl,rfl⟩ | exact ⟨rfl,rfl,rfl,rfl⟩); decide) | (apply rund_app; decide; simp (disch:=omega) [if_pos]; (first | rfl | exact ⟨rfl,rfl⟩ | exact ⟨rfl,rfl,rfl,rfl⟩); decide) | (apply rund_sto; decide; simp (disch:=omega) [if_pos]; rfl))); exact hx):G:=h k
theorem wM {G X:Prop} (k:X) (h:X → G:=by intro hx; (repeat' (first | apply tr_seq | apply tr_region | apply run_nil | apply thn_n | apply thn_e | apply thn_r | apply blk_e | apply blk_n | apply blk_r | (refine blk_ne ?_ ?_; decide) | apply tr_block | apply tr_skip | apply tr_label | apply tr_exit | apply tr_ret | (refine tr_region_draw (bars:=[]) mixed (by kernel_rfl) ?_) | apply rund_nil | ((first | apply run_v | apply rund_v); simp (disch:=omega) [if_pos]; (first | rfl | exact ⟨rfl,rfl⟩); decide) | ((first | apply run_bs | apply run_app | apply run_build | apply run_box | apply run_alloc | apply rund_build); simp (disch:=omega) [if_pos]; (first | rfl | exact ⟨rfl,rfl⟩ | exact ⟨rfl,rfl,rfl,rfl⟩); decide) | (apply run_sto; simp (disch:=omega) [if_pos]; rfl))); exact hx):G:=h k
end Go.Proofs.YtpehhhbmobmedaaGreatDoor
