/- A machine of values over the model: make of a slice. -/
import Derived.Test.YtpehhhbmobmedaaGreatDoorGR
import Derived.Laws.MakeOwn
import Derived.Laws.Cover3
namespace Go.Proofs.YtpehhhbmobmedaaGreatDoor
set_option linter.unusedVariables false
set_option linter.unusedSimpArgs false
set_option linter.unusedSectionVars false
section
open Go.RowKit
section
variable {P:Program}
theorem gs_makeSliceP {pl:Option Nat} {o:Oper} {st:St} {t e:TypeId} {s bytes:Nat} {zs:List Value} {x y:Operand} {n:Nat} {kl kc:IntKind} (ho:o.op = .makeSlice t x y) (hd:∀ d,o.dst = some d → d < st.n) (he:telem P t = some e) (hs:tsize P e = some s) (hz:tzero P e = some zs) (hzl:zs.length = s) (hby:(P.info? e).map (·.bytes) = some bytes)
  (hx:gev st x = .lit (.int kl n)) (hy:gev st y = .lit (.int kc n)) (hb:bytes * n ≤ 281474976710656) (h63:n ≤ 9223372036854775807) (hpl:plOk st pl):GS P o st (st.newP pl o.dst e ((gzeros zs (n * s)).map .lit) (.rsl (plNum st pl) 0 n)):=by
 intro cx a w K R ⟨β,h⟩ hK
 obtain ⟨i,z,hi,hz',hzs,h1⟩:=tzero_spec hz
 have ht:=telem_spec he
 have hsi:i.size = s:=by
  unfold tsize at hs
  rw [hi] at hs
  simpa using hs
 have hbi:i.bytes = bytes:=by
  rw [hi] at hby
  simpa using hby
 have vx:a.eval x = .int kl n:=by have:=h.ev x; rw [hx] at this; exact this.lit_eq
 have vy:a.eval y = .int kc n:=by have:=h.ev y; rw [hy] at this; exact this.lit_eq
 have hcells:madeCells z.cells (n * s) = (gzeros zs (n * s)).toArray:=by
  apply Array.ext (by simp [gzeros,madeCells])
  intro j h1' h2'
  have hj:j < n * s:=by simpa [madeCells] using h1'
  have hpos:0 < zs.length:=by
   rcases Nat.eq_zero_or_pos zs.length with h0 | h0
   ·rw [← hzl,h0] at hj; simp at hj
   ·exact h0
  have hlt:=Nat.mod_lt j hpos
  have hsz:z.cells.size = zs.length:=by rw [← hzs]; simp
  simp only [madeCells,Array.getElem_map,Array.getElem_range,gzeros,List.getElem_toArray,List.getElem_map,List.getElem_range,hsz]
  rw [List.getD_eq_getElem?_getD,List.getElem?_eq_getElem hlt,getElem!_pos z.cells _ (by omega)]
  simp only [Option.getD_some,← hzs,Array.getElem_toList]
 have hrun:(execOp a.eval o).run P w = .ok (.value (.slice (some ⟨w.heap.size,0,none⟩) n n)) (w.alloc (.cells (gzeros zs (n * s)).toArray e)):=by
  have hbb:(i.bytes:Int) * (n:Int) ≤ 281474976710656:=by
   have h:((bytes * n:Nat):Int) ≤ 281474976710656:=by omega
   rw [hbi]
   rwa [Int.natCast_mul] at h
  have hm:=run_make (P:=P) w t e i z ht hi hz' kl kc n n (by omega) (Int.le_refl _) hbb (by omega)
  rw [hsi] at hm
  simp only [Int.toNat_natCast] at hm
  rw [hcells] at hm
  unfold execOp
  simp only [ho,vx,vy,Sem.run_bind,hm,Result.andThen_ok,Sem.run_pure]
 refine h.loose.oper (fun c hc => by rw [ho] at hc; cases hc) ?_
 unfold Oper.wp
 rw [hrun]
 have hzz:∀ v ∈ gzeros zs (n * s),v.oneCell' = true:=by
  intro v hv
  simp only [gzeros,List.mem_map,List.mem_range] at hv
  obtain ⟨k,hk,rfl⟩:=hv
  have hpos:0 < zs.length:=by
   rcases Nat.eq_zero_or_pos zs.length with h0 | h0
   ·rw [← hzl,h0] at hk; simp at hk
   ·exact h0
  have hlt:=Nat.mod_lt k hpos
  rw [List.getD_eq_getElem?_getD,List.getElem?_eq_getElem hlt]
  exact h1 _ (List.getElem_mem hlt)
 have hn:n ≤ maxLen:=by unfold maxLen; omega
 refine hK _ _ (h.newP (hpl:=hpl) (C:=n) (by rw [tsz_of hs]; simp [gzeros]) hn (by simp) (fun j u hu => hzz u (List.mem_of_getElem? (by simpa using hu))) (fun j g u hg hu => ?_) o.dst hd (fun β' hb S w' => .rsl _ _ _ _ _ _ _ hb (Nat.le_refl _) hn (fun _ => rfl) (fun _ => ⟨rfl,rfl⟩)))
 rw [List.getElem?_map] at hg
 have hu':(gzeros zs (n * s))[j]? = some u:=by simpa using hu
 rw [hu'] at hg
 cases hg
 exact .imm _ _ (.lit u)
def gmake (P:Program) (t:TypeId) (gx gy:G):Option (TypeId × List G × Nat):=match gx,gy with
 | .lit (.int _ (.ofNat n)),.lit (.int _ (.ofNat m)) => match telem P t with
  | some e => match tsize P e,tzero P e,(P.info? e).map (·.bytes) with
   | some s,some zs,some b => bif Nat.beq n m && Nat.beq zs.length s && Nat.ble (b * n) 281474976710656 && Nat.ble n 9223372036854775807 then some (e,(gzeros zs (n * s)).map .lit,n) else none
   | _,_,_ => none
  | none => none
 | _,_ => none
theorem gs_makeP {pl:Option Nat} {o:Oper} {st:St} {t e:TypeId} {x y:Operand} {l:List G} {n:Nat} (ho:o.op = .makeSlice t x y) (hd:∀ d,o.dst = some d → d < st.n) (h:gmake P t (gev st x) (gev st y) = some (e,l,n)) (hpl:plOk st pl):GS P o st (st.newP pl o.dst e l (.rsl (plNum st pl) 0 n)):=by
 unfold gmake at h
 split at h
 ·rename_i kl n' kc m hx hy
  split at h
  ·rename_i e' he
   split at h
   ·rename_i s zs b h1 h2 h3
    cases hc:(Nat.beq n' m && Nat.beq zs.length s && Nat.ble (b * n') 281474976710656 && Nat.ble n' 9223372036854775807) with
    | false => rw [hc] at h; cases h
    | true =>
     rw [hc] at h
     cases h
     simp only [Bool.and_eq_true] at hc
     have e1:=Nat.eq_of_beq_eq_true hc.1.1.1
     subst e1
     exact gs_makeSliceP ho hd he h1 h2 (Nat.eq_of_beq_eq_true hc.1.1.2) h3 hx hy (Nat.le_of_ble_eq_true hc.1.2) (Nat.le_of_ble_eq_true hc.2) hpl
   ·cases h
  ·cases h
 ·cases h
theorem gs_make {o:Oper} {st:St} {t e:TypeId} {x y:Operand} {l:List G} {n:Nat} (ho:o.op = .makeSlice t x y) (hd:∀ d,o.dst = some d → d < st.n) (h:gmake P t (gev st x) (gev st y) = some (e,l,n)):GS P o st (st.new o.dst e l (.rsl st.c 0 n)):=gs_makeP (pl:=none) ho hd h trivial
end
end
section
open Go.RowKit
section
variable {P:Program}
def nilSl:Value → Bool
 | .slice none _ _ => true
 | _ => false
def nilPt:Value → Bool
 | .pointer none => true
 | _ => false
def nilFn:Value → Bool
 | .nilFunc => true
 | _ => false
theorem nilSl_spec {v:Value} (h:nilSl v = true):∃ n c,v = .slice none n c:=by
 unfold nilSl at h
 split at h
 ·exact ⟨_,_,rfl⟩
 ·cases h
theorem nilPt_spec {v:Value} (h:nilPt v = true):v = .pointer none:=by
 unfold nilPt at h
 split at h
 ·rfl
 ·cases h
theorem nilFn_spec {v:Value} (h:nilFn v = true):v = .nilFunc:=by
 unfold nilFn at h
 split at h
 ·rfl
 ·cases h
def tsl (P:Program) (t:TypeId):Bool:=match P.underlying t with
 | some (.slice _) => true
 | _ => false
def tpt (P:Program) (t:TypeId):Bool:=match P.underlying t with
 | some (.pointer _) => true
 | _ => false
def tfn (P:Program) (t:TypeId):Bool:=match P.underlying t with
 | some (.func ..) => true
 | _ => false
theorem tsl_spec {t:TypeId} (h:tsl P t = true):∃ e,P.underlying t = some (.slice e):=by
 unfold tsl at h
 split at h
 ·rename_i e hu; exact ⟨e,hu⟩
 ·cases h
theorem tpt_spec {t:TypeId} (h:tpt P t = true):∃ e,P.underlying t = some (.pointer e):=by
 unfold tpt at h
 split at h
 ·rename_i e hu; exact ⟨e,hu⟩
 ·cases h
theorem tfn_spec {t:TypeId} (h:tfn P t = true):∃ a b c,P.underlying t = some (.func a b c):=by
 unfold tfn at h
 split at h
 ·rename_i a b c hu; exact ⟨a,b,c,hu⟩
 ·cases h
def gsome (P:Program) (t:TypeId) (nil:Value):G → Bool
 | .rsl _ _ (_ + 1) => nilSl nil && tsl P t
 | .sl (_ :: _) _ => nilSl nil && tsl P t
 | .ref _ _ => nilPt nil && tpt P t
 | .ptr _ _ => nilPt nil && tpt P t
 | .clo _ _ _ => nilFn nil && tfn P t
 | _ => false
theorem gsome_run {β:Bm} {S:Nat → Prop} {w:World} {t:TypeId} {nil v:Value} {g:G} (h:gsome P t nil g = true) (hv:RV β S w g v):(∀ d W,(Op.equalIn (d + 1) t v nil).run P W = .ok false W) ∧ (∀ op x y W,(eqGuard op t x y v nil).run P W = .ok () W) ∧ ∀ W,(binOp .eql t v nil).run P W = .ok (.bool false) W ∧ (binOp .neq t v nil).run P W = .ok (.bool true) W:=by
 have fin:(∀ k n,v ≠ .int k n) → (∀ k n,v ≠ .float k n) → (∀ k a b,v ≠ .complex k a b) → (∀ s,v ≠ .string s) → (∀ d W,(Op.equalIn (d + 1) t v nil).run P W = .ok false W) → ∀ W,(binOp .eql t v nil).run P W = .ok (.bool false) W ∧ (binOp .neq t v nil).run P W = .ok (.bool true) W:=by
  intro n1 n2 n3 n4 he W
  have he':(Op.equal t v nil).run P W = .ok false W:=he 9999 W
  constructor
  ·unfold binOp
   split <;> simp_all
  ·unfold binOp
   split <;> simp_all
 have sl:∀ (x:Addr) (n c:Nat),v = .slice (some x) n c → nilSl nil = true → tsl P t = true → (∀ d W,(Op.equalIn (d + 1) t v nil).run P W = .ok false W) ∧ (∀ op x y W,(eqGuard op t x y v nil).run P W = .ok () W) ∧ ∀ W,(binOp .eql t v nil).run P W = .ok (.bool false) W ∧ (binOp .neq t v nil).run P W = .ok (.bool true) W:=by
  rintro x n c rfl h1 h2
  obtain ⟨n',c',rfl⟩:=nilSl_spec h1
  obtain ⟨e,hu⟩:=tsl_spec h2
  have he:∀ d W,(Op.equalIn (d + 1) t (.slice (some x) n c) (.slice none n' c')).run P W = .ok false W:=fun d W => by simp [Op.equalIn,run_underlying hu]
  exact ⟨he,fun op a b W => by unfold eqGuard; split <;> simp,fin (by simp) (by simp) (by simp) (by simp) he⟩
 have pt:∀ (x:Addr),v = .pointer (some x) → nilPt nil = true → tpt P t = true → (∀ d W,(Op.equalIn (d + 1) t v nil).run P W = .ok false W) ∧ (∀ op x y W,(eqGuard op t x y v nil).run P W = .ok () W) ∧ ∀ W,(binOp .eql t v nil).run P W = .ok (.bool false) W ∧ (binOp .neq t v nil).run P W = .ok (.bool true) W:=by
  rintro x rfl h1 h2
  obtain rfl:=nilPt_spec h1
  obtain ⟨e,hu⟩:=tpt_spec h2
  have he:∀ d W,(Op.equalIn (d + 1) t (.pointer (some x)) (.pointer none)).run P W = .ok false W:=fun d W => by simp [Op.equalIn,run_underlying hu]
  exact ⟨he,fun op a b W => by unfold eqGuard; split <;> simp,fin (by simp) (by simp) (by simp) (by simp) he⟩
 unfold gsome at h
 split at h
 ·rename_i i o n
  simp only [Bool.and_eq_true] at h
  rcases hv.rsl_form with ⟨hb,_,hn⟩ | ⟨b,C,o',cap,hb,rfl,_⟩
  ·cases hn
  ·exact sl _ _ _ rfl h.1 h.2
 ·rename_i g0 l n
  simp only [Bool.and_eq_true] at h
  obtain ⟨a,cap,us,rfl,_,_,ha,_⟩:=hv.sl_cells
  obtain ⟨b,off,rfl,_⟩:=ha 0 (by simp)
  exact sl _ _ _ rfl h.1 h.2
 ·simp only [Bool.and_eq_true] at h
  obtain ⟨b,C,_,rfl⟩:=hv.ref_addr
  exact pt _ rfl h.1 h.2
 ·simp only [Bool.and_eq_true] at h
  obtain ⟨b,off,us,rfl,_⟩:=hv.ptr_cells
  exact pt _ rfl h.1 h.2
 ·rename_i fn fst cap
  simp only [Bool.and_eq_true] at h
  obtain ⟨fs,cs,rfl,_⟩:=hv.clo_form
  obtain ⟨h1,h2⟩:=h
  obtain rfl:=nilFn_spec h1
  obtain ⟨_,_,_,hu⟩:=tfn_spec h2
  have he:∀ d W,(Op.equalIn (d + 1) t (.func fn fs cs) .nilFunc).run P W = .ok false W:=fun d W => by simp [Op.equalIn,run_underlying hu]
  exact ⟨he,fun op a b W => by unfold eqGuard; split <;> simp,fin (by simp) (by simp) (by simp) (by simp) he⟩
 ·cases h
def gnilcmp (P:Program) (op:BinOp) (t:TypeId) (gx gy:G):Option G:=match gy with
 | .lit nil => bif gsome P t nil gx then (match op with
  | .eql => some (.lit (.bool false))
  | .neq => some (.lit (.bool true))
  | _ => none) else none
 | _ => none
theorem gs_nilcmp {o:Oper} {st:St} {op:BinOp} {t t':TypeId} {x y:Operand} {g:G} (ho:o.op = .binOp op t x y t') (hd:∀ d,o.dst = some d → d < st.n) (h:gnilcmp P op t (gev st x) (gev st y) = some g):GS P o st (st.put o.dst g):=by
 intro cx a w K R ⟨β,r⟩ hK
 unfold gnilcmp at h
 split at h
 ·rename_i nil hy
  cases hs:gsome P t nil (gev st x) with
  | false => rw [hs] at h; cases h
  | true =>
   rw [hs] at h
   obtain ⟨_,h2,h3⟩:=gsome_run hs (r.ev x)
   have vy:a.eval y = nil:=by have:=r.ev y; rw [hy] at this; exact this.lit_eq
   have hrun:∃ b,g = .lit (.bool b) ∧ (execOp a.eval o).run P w = .ok (.value (.bool b)) w:=by
    unfold execOp
    simp only [ho,vy]
    cases op with
    | eql => cases h; exact ⟨_,rfl,by simp [Sem.run_bind,h2,(h3 w).1]⟩
    | neq => cases h; exact ⟨_,rfl,by simp [Sem.run_bind,h2,(h3 w).2]⟩
    | _ => cases h
   obtain ⟨b,rfl,hr⟩:=hrun
   refine r.loose.oper (fun c hc => by rw [ho] at hc; cases hc) ?_
   unfold Oper.wp
   rw [hr]
   exact hK _ _ ⟨β,r.put o.dst hd (.imm _ _ (.lit _))⟩
 ·cases h
end
end
end Go.Proofs.YtpehhhbmobmedaaGreatDoor
