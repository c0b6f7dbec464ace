/- What op.kinds and roll.asks are when the call begins, for the machine of values. -/
import Derived.Test.YtpehhhbmobmedaaGreatDoorGun
import Derived.Test.YtpehhhbmobmedaaGreatDoorRows
import Derived.LaidMore
import Derived.LaidHandle
import Derived.ProofKit
import Derived.OpenShut
import Derived.KernelRfl
namespace Go.Proofs.YtpehhhbmobmedaaGreatDoor
set_option linter.unusedVariables false
set_option linter.unusedSimpArgs false
set_option linter.unusedSectionVars false
open Go.ChangeShapes Go.WideShapes Go.ChangeAt Go.RowKit
abbrev laidL:List (String × DataW Unit):=[("huddle/roll.asks",Rows.laid_huddle_roll_asks),("huddle/op.kinds",Rows.laid_huddle_op_kinds)]
theorem gAsks:Tryz.prog.globalNamed "huddle/roll.asks" = some 1:=by kernel_rfl
theorem gKinds:Tryz.prog.globalNamed "huddle/op.kinds" = some 0:=by kernel_rfl
theorem tAsks:(Tryz.prog.globals[1]?).map (·.type) = some 378:=by kernel_rfl
theorem tKinds:(Tryz.prog.globals[0]?).map (·.type) = some 251:=by kernel_rfl
theorem take_one {α:Type} {l:List α} {i:Nat} {v:α} (h:l[i]? = some v):(l.drop (i * 1)).take 1 = [v]:=by
 rw [Nat.mul_one]
 obtain ⟨hi,rfl⟩:=List.getElem?_eq_some_iff.1 h
 rw [List.drop_eq_getElem_cons hi]
 rfl
theorem nil_of_trod {P:Program} {w:World} {base:Nat} {sp:Nat → Bool} {fuel:Nat} {t:TypeId} {ps rs:Array TypeId} {va:Bool} {v:Value} {q:List MemPlace} (ht:P.underlying t = some (.func ps rs va))
  (h:DataW.trod (funcToken P) P w base sp true fuel t [v] = some (.nil,q)):v = .nilFunc:=by
 cases fuel with
 | zero => simp [DataW.trod] at h
 | succ n => cases v <;> simp [DataW.trod,ht] at h; rfl
theorem array_cells {H:Type} {enc:TypeId × Value → H} {P:Program} {w:World} {base:Nat} {sp:Nat → Bool} {held:Bool} {fuel n:Nat} {t e:TypeId} {cs:Array Value} {ds:List (DataW H)} {p:List MemPlace} {nm:String} {g:Nat} (ht:P.underlying t = some (.array n e)) (hc:P.cellsOf e = 1) (hn:P.cellsOf t = n)
  (hg:P.globalNamed nm = some g) (hv:w.var? P nm = some cs) (h:DataW.trod enc P w base sp held fuel t cs.toList = some (.agg ds,p)):∀ i,i < n → ∃ v d m q,w.cell? ⟨g,i,none⟩ = some v ∧ ds[i]? = some d ∧ DataW.trod enc P w base sp held m e [v] = some (d,q):=by
 obtain ⟨xs,m,_,hx,hl,hlen,hel⟩:=DataW.trod_array ht h
 simp only [Prod.mk.injEq,DataW.agg.injEq] at hx
 intro i hi
 have hsz:cs.size = n:=by rw [← hn,← hl]; simp
 have hcell:=World.var?_cell hg hv i
 have hci:cs[i]? = some (cs[i]'(by omega)):=Array.getElem?_eq_getElem (by omega)
 have hli:cs.toList[i]? = some (cs[i]'(by omega)):=by rw [Array.getElem?_toList]; exact hci
 have:=hel i hi
 rw [hc,take_one hli] at this
 have hxi:xs[i]? = some (xs[i]'(by omega)):=List.getElem?_eq_getElem (by omega)
 rw [hxi] at this
 refine ⟨_,(xs[i]'(by omega)).1,m,(xs[i]'(by omega)).2,hcell.trans hci,?_,this⟩
 rw [hx.1,List.getElem?_map,hxi]
 rfl
theorem cell_lt {W:World} {g i:Nat} {v:Value} (h:W.cell? ⟨g,i,none⟩ = some v):g < W.heap.size:=by
 rcases Nat.lt_or_ge g W.heap.size with h' | h'
 ·exact h'
 ·unfold World.cell? at h
  simp [Array.getElem?_eq_none h'] at h
def valOf:G → Value
 | .lit v => v
 | .clo fn _ _ => .func fn #[] #[]
 | _ => .nilFunc
theorem iv_val {S:Nat → Prop} {W:World} {g:G} (h:(∃ v,g = .lit v) ∨ ∃ n,g = fnG n):IV S W g (valOf g):=by
 rcases h with ⟨v,rfl⟩ | ⟨n,rfl⟩
 ·exact .lit v
 ·exact .clo _ [] [] #[] #[] rfl rfl (by simp) (by simp)
theorem gls_ptr {W:World} {g:Nat} {l:List G} (h0:g < W.heap.size) (hc:∀ i x,l[i]? = some x → W.cell? ⟨g,i,none⟩ = some (valOf x)) (hg:∀ x ∈ l,((∃ k z,x = .lit (.int k z)) ∨ x = .lit .nilFunc) ∨ ∃ n,x = fnG n):IV (fun _ => False) W (.ptr l 0) (.pointer (some ⟨g,0,none⟩)):=by
 have e:(⟨g,0,none⟩:Addr) = ⟨g,0 + 0,none⟩:=rfl
 refine .ptr l 0 g 0 (fun i => valOf (l.getD i .junk)) (fun h => h) h0 (fun i hi => ?_) (fun i hi => ?_) (fun i x hx => ?_)
 ·rw [Nat.zero_add]
  refine hc i _ ?_
  rw [List.getD_eq_getElem?_getD,List.getElem?_eq_getElem hi]; rfl
 ·have hx:l[i]? = some (l[i]'hi):=List.getElem?_eq_getElem hi
  rw [List.getD_eq_getElem?_getD,hx]
  rcases hg _ (List.mem_of_getElem? hx) with (⟨k,z,h⟩ | h) | ⟨n,h⟩ <;> (simp only [Option.getD_some]; rw [h]; rfl)
 ·rw [List.getD_eq_getElem?_getD,hx]
  simp only [Option.getD_some]
  refine iv_val ?_
  rcases hg _ (List.mem_of_getElem? hx) with (⟨k,z,h⟩ | h) | ⟨n,h⟩
  ·exact .inl ⟨_,h⟩
  ·exact .inl ⟨_,h⟩
  ·exact .inr ⟨n,h⟩
theorem gls_kinds {W:World} (h:laidMetH Tryz.prog laidL W):IV (fun _ => False) W (.ptr kinds 0) (.pointer (some ⟨0,0,none⟩)):=by
 have hm:laidMet Tryz.prog [("huddle/op.kinds",Rows.laid_huddle_op_kinds)] W:=h.1
 obtain ⟨ps,⟨g1,t1,cs1,f1,p1,q1,hg1,ht1,hv1,hd1,_,_⟩,_,_⟩:=hm
 obtain rfl:=Option.some.inj (gKinds.symm.trans hg1)
 obtain rfl:=Option.some.inj (tKinds.symm.trans ht1)
 have hcells:=array_cells (n:=14) Tryz.underlying251 (by kernel_rfl) (by kernel_rfl) hg1 hv1 hd1
 have key:∀ i x,kinds[i]? = some x → W.cell? ⟨0,i,none⟩ = some (valOf x):=by
  intro i x hx
  have hi:i < 14:=(List.getElem?_eq_some_iff.1 hx).1
  obtain ⟨v,d,m,q,hc,hd,hr⟩:=hcells i hi
  obtain ⟨k,e1,e2,_⟩:=DataW.trod_int Tryz.underlying3 hr
  simp only [Prod.mk.injEq] at e2
  rw [hc]
  simp only [List.cons.injEq,and_true] at e1
  rw [e1]
  rw [e2.1] at hd
  match i,hi with
  | 0,_ | 1,_ | 2,_ | 3,_ | 4,_ | 5,_ | 6,_ | 7,_ | 8,_ | 9,_ | 10,_ | 11,_ | 12,_ | 13,_ =>
   cases hd
   cases hx
   rfl
 refine gls_ptr (cell_lt (key 0 _ rfl)) key fun x hx => .inl (.inl ?_)
 obtain ⟨z,_,rfl⟩:=List.mem_map.1 hx
 exact ⟨_,_,rfl⟩
theorem one0:((List.range Tryz.prog.funcs.size).filter fun f => (Tryz.prog.funcs[f]?).any (·.name.toUTF8.data.toList == [104,117,100,100,108,101,47,114,111,108,108,46,97,115,107,115,36,49])) = [395]:=by kernel_rfl
theorem one1:((List.range Tryz.prog.funcs.size).filter fun f => (Tryz.prog.funcs[f]?).any (·.name.toUTF8.data.toList == [104,117,100,100,108,101,47,114,111,108,108,46,97,115,107,115,36,50])) = [397]:=by kernel_rfl
theorem one2:((List.range Tryz.prog.funcs.size).filter fun f => (Tryz.prog.funcs[f]?).any (·.name.toUTF8.data.toList == [104,117,100,100,108,101,47,114,111,108,108,46,97,115,107,115,36,51])) = [398]:=by kernel_rfl
theorem one3:((List.range Tryz.prog.funcs.size).filter fun f => (Tryz.prog.funcs[f]?).any (·.name.toUTF8.data.toList == [104,117,100,100,108,101,47,114,111,108,108,46,97,115,107,115,36,52])) = [399]:=by kernel_rfl
theorem one4:((List.range Tryz.prog.funcs.size).filter fun f => (Tryz.prog.funcs[f]?).any (·.name.toUTF8.data.toList == [104,117,100,100,108,101,47,114,111,108,108,46,97,115,107,115,36,53])) = [400]:=by kernel_rfl
theorem one5:((List.range Tryz.prog.funcs.size).filter fun f => (Tryz.prog.funcs[f]?).any (·.name.toUTF8.data.toList == [104,117,100,100,108,101,47,114,111,108,108,46,97,115,107,115,36,54])) = [401]:=by kernel_rfl
theorem one6:((List.range Tryz.prog.funcs.size).filter fun f => (Tryz.prog.funcs[f]?).any (·.name.toUTF8.data.toList == [40,42,104,117,100,100,108,101,47,114,111,108,108,46,82,111,108,108,41,46,111,119,110])) = [403]:=by kernel_rfl
theorem one7:((List.range Tryz.prog.funcs.size).filter fun f => (Tryz.prog.funcs[f]?).any (·.name.toUTF8.data.toList == [104,117,100,100,108,101,47,114,111,108,108,46,97,115,107,115,36,55])) = [404]:=by kernel_rfl
theorem one8:((List.range Tryz.prog.funcs.size).filter fun f => (Tryz.prog.funcs[f]?).any (·.name.toUTF8.data.toList == [104,117,100,100,108,101,47,114,111,108,108,46,97,115,107,115,36,56])) = [405]:=by kernel_rfl
theorem gls_asks {W:World} (h:laidMetH Tryz.prog laidL W):IV (fun _ => False) W (.ptr asks 0) (.pointer (some ⟨1,0,none⟩)):=by
 obtain ⟨g,t,cs,fuel,p,hg,ht,hv,hd0⟩:=h.funcs (List.mem_cons_self ..)
 obtain rfl:=Option.some.inj (gAsks.symm.trans hg)
 obtain rfl:=Option.some.inj (tAsks.symm.trans ht)
 have hd1:DataW.trod (funcToken Tryz.prog) Tryz.prog W 0 (fun _ => true) true fuel 378 cs.toList = some (.agg [.nil,.nil,.held [104,117,100,100,108,101,47,114,111,108,108,46,97,115,107,115,36,49],.held [104,117,100,100,108,101,47,114,111,108,108,46,97,115,107,115,36,50],.nil,.held [104,117,100,100,108,101,47,114,111,108,108,46,97,115,107,115,36,51],.held [104,117,100,100,108,101,47,114,111,108,108,46,97,115,107,115,36,52],.nil,.held [104,117,100,100,108,101,47,114,111,108,108,46,97,115,107,115,36,53],.held [104,117,100,100,108,101,47,114,111,108,108,46,97,115,107,115,36,54],.held [40,42,104,117,100,100,108,101,47,114,111,108,108,46,82,111,108,108,41,46,111,119,110],.held [104,117,100,100,108,101,47,114,111,108,108,46,97,115,107,115,36,55],.held [40,42,104,117,100,100,108,101,47,114,111,108,108,46,82,111,108,108,41,46,111,119,110],.held [104,117,100,100,108,101,47,114,111,108,108,46,97,115,107,115,36,56]],p):=hd0
 have hcells:=array_cells (n:=14) Tryz.underlying378 (by kernel_rfl) (by kernel_rfl) hg hv hd1
 have key:∀ i x,asks[i]? = some x → W.cell? ⟨1,i,none⟩ = some (valOf x):=by
  intro i x hx
  have hi:i < 14:=(List.getElem?_eq_some_iff.1 hx).1
  obtain ⟨v,d,m,q,hc,hd,hr⟩:=hcells i hi
  match i,hi with
  | 0,_ =>
   cases hd
   cases hx
   rw [hc,nil_of_trod Tryz.underlying377 hr]
   rfl
  | 1,_ =>
   cases hd
   cases hx
   rw [hc,nil_of_trod Tryz.underlying377 hr]
   rfl
  | 2,_ =>
   cases hd
   cases hx
   rw [hc,func_of_trod (f0:=395) Tryz.underlying377 one0 hr]
   rfl
  | 3,_ =>
   cases hd
   cases hx
   rw [hc,func_of_trod (f0:=397) Tryz.underlying377 one1 hr]
   rfl
  | 4,_ =>
   cases hd
   cases hx
   rw [hc,nil_of_trod Tryz.underlying377 hr]
   rfl
  | 5,_ =>
   cases hd
   cases hx
   rw [hc,func_of_trod (f0:=398) Tryz.underlying377 one2 hr]
   rfl
  | 6,_ =>
   cases hd
   cases hx
   rw [hc,func_of_trod (f0:=399) Tryz.underlying377 one3 hr]
   rfl
  | 7,_ =>
   cases hd
   cases hx
   rw [hc,nil_of_trod Tryz.underlying377 hr]
   rfl
  | 8,_ =>
   cases hd
   cases hx
   rw [hc,func_of_trod (f0:=400) Tryz.underlying377 one4 hr]
   rfl
  | 9,_ =>
   cases hd
   cases hx
   rw [hc,func_of_trod (f0:=401) Tryz.underlying377 one5 hr]
   rfl
  | 10,_ =>
   cases hd
   cases hx
   rw [hc,func_of_trod (f0:=403) Tryz.underlying377 one6 hr]
   rfl
  | 11,_ =>
   cases hd
   cases hx
   rw [hc,func_of_trod (f0:=404) Tryz.underlying377 one7 hr]
   rfl
  | 12,_ =>
   cases hd
   cases hx
   rw [hc,func_of_trod (f0:=403) Tryz.underlying377 one6 hr]
   rfl
  | 13,_ =>
   cases hd
   cases hx
   rw [hc,func_of_trod (f0:=405) Tryz.underlying377 one8 hr]
   rfl
 refine gls_ptr (cell_lt (key 0 _ rfl)) key fun x hx => ?_
 simp only [asks,List.mem_cons,List.not_mem_nil,or_false] at hx
 rcases hx with rfl | rfl | rfl | rfl | rfl | rfl | rfl | rfl | rfl | rfl | rfl | rfl | rfl | rfl <;> first | exact .inl (.inr rfl) | exact .inr ⟨_,rfl⟩
theorem gls_all {W:World} (h:laidMetH Tryz.prog laidL W):Gls glc (fun _ => False) W:=by
 intro g l hl
 simp only [glc,List.lookup_cons] at hl
 split at hl
 ·rename_i e
  cases hl
  obtain rfl:=eq_of_beq e
  exact gls_kinds h
 ·split at hl
  ·rename_i e
   cases hl
   obtain rfl:=eq_of_beq e
   exact gls_asks h
  ·cases hl
end Go.Proofs.YtpehhhbmobmedaaGreatDoor
