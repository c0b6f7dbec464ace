/- huddleref12.Made of nothing: run by the kernel. The tables are printed by gentab.py. -/
import Derived.Test.YtpehhhbmobmedaaGreatDoorC23a
namespace Go.Proofs.YtpehhhbmobmedaaGreatDoor
set_option linter.unusedVariables false
set_option linter.unusedSimpArgs false
set_option linter.unusedSectionVars false
open Go.RowKit
def tabM0:Tab:=[(63,[ts [108,101,97,100],ti (1)],tu 421707201092791294),
 (62,[tu 421707201092791294],tu 1858807316446646070),
 (63,[ts [107,101,101,112],ti (1)],tu 1521848841071240365),
 (62,[tu 1521848841071240365],tu 2294458496254976924),
 (63,[ts [115,105,103,110],ti (1)],tu 1626133395376501031),
 (62,[tu 1626133395376501031],tu 1058522930688824048),
 (63,[ts [108,101,97,100],ti (2)],tu 2291886921610748822),
 (62,[tu 2291886921610748822],tu 1810974450540283748),
 (63,[ts [107,101,101,112],ti (2)],tu 1180713173775317926),
 (62,[tu 1180713173775317926],tu 732551293757751401),
 (63,[ts [115,105,103,110],ti (2)],tu 1386298229917608494),
 (62,[tu 1386298229917608494],tu 86482453431610406),
 (63,[ts [108,101,97,100],ti (3)],tu 1073959592131259377),
 (62,[tu 1073959592131259377],tu 490180086995058983),
 (63,[ts [107,101,101,112],ti (3)],tu 2096338858604164514),
 (62,[tu 2096338858604164514],tu 1441871927598236410),
 (63,[ts [115,105,103,110],ti (3)],tu 1538782551431182296),
 (62,[tu 1538782551431182296],tu 1783630545573332436),
 (63,[ts [108,101,97,100],ti (4)],tu 1863283391132157292),
 (62,[tu 1863283391132157292],tu 1953319703317080786),
 (63,[ts [107,101,101,112],ti (4)],tu 665162985134019866),
 (62,[tu 665162985134019866],tu 881125215762738857),
 (63,[ts [115,105,103,110],ti (4)],tu 444722250596327671),
 (62,[tu 444722250596327671],tu 1828901513722737251)]
theorem tabM0_run:tabM0.all (chk1 Tryz.prog EA 100000) = true:=by kernel_rfl
def tabM1:Tab:=[(89,[ts [115,105,103,110,101,100],.sl [ty 2,ty 2,ty 2,ty 0,ty 0,ty 0,ty 0,ty 0,ty 0,ty 2,ty 5,ty 0,ty 0,ty 0,ty 0,ty 0,ty 0,ty 0,ty 0,ty 0,ty 0,ty 0,ty 0,ty 0,ty 0,ty 0,ty 0] 27],tu 674020321981923459),
 (105,[ts [110,111,110,99,101],.sl [tu 1626133395376501031,tu 674020321981923459] 2],tu 1936320815979203046),
 (147,[ts [115,105,103],.sl [tu 2230197824384569134,tu 1058522930688824048,tu 674020321981923459] 3],tu 2222449119264421373),
 (59,[.agg [ti (1),ti (1),ti (1),ti (0),tz,ti (0),ti (0),ti (0),ti (0),.sl [tu 5,tz] 1,ti (0),ti (0),tu 0,ti (0),tz,tz,ti (0),ti (0),tu 0,tz,ti (0),ti (0),tz,tu 0,tz,tu 2230197824384569134,tu 2134708774514118709]],.agg [ti (1),ti (1),tu 20266230394878374])]
theorem tabM1_run:tabM1.all (chk1 Tryz.prog EA 100000) = true:=by kernel_rfl
def tpMd:XPure:=tabTp tabM0 (tabTp tabM1 (tpA))
theorem tpMd_ok:PureOk Tryz.prog tpMd:=tabTp_ok (T:=tabM0) (tabTp_ok (T:=tabM1) (tpA_ok) (chk_ok mixed tpA_ok EA_kc tabM1_run)) (chk_ok mixed tpA_ok EA_kc tabM0_run)
noncomputable def tpcM:XPure:=tpM tpMd
theorem tpcM_ok:PureOk Tryz.prog tpcM:=tpM_ok tpMd_ok
noncomputable def EcM:XEnv:={ xenvK pfc tpcM glc [] [] with pc:=pcT }
theorem EcM_ok:KcOk Tryz.prog EcM:=(xenvK_ok (by simp) (by simp):KcOk Tryz.prog (xenvK pfc tpcM glc [] []))
abbrev idCells (a b s:Nat):List G:=[.lit (.int .i64 (.ofNat a)),.lit (.int .i64 (.ofNat b)),.lit (.int .u64 (.ofNat s))]
def isM (l:Option (List XR)):Bool:=match l with
 | some [(.agg [_,_,.rsl i 0 1,_,_],σ,c,_)] => match sget σ i with
  | some ⟨61,[.lit (.int .i64 (.ofNat a)),.lit (.int .i64 (.ofNat b)),.lit (.int .u64 (.ofNat s))],none⟩ => Nat.ble a 1000 && Nat.ble b 1000 && Nat.ble s 2305843009213693951 && Nat.ble (i + 1) c
  | _ => false
 | _ => false
theorem isM_spec {l:Option (List XR)} (h:isM l = true):∃ g0 g1 g3 g4 i σ c lo a b s,l = some [(.agg [g0,g1,.rsl i 0 1,g3,g4],σ,c,lo)] ∧ sget σ i = some ⟨61,idCells a b s,none⟩ ∧ a ≤ 1000 ∧ b ≤ 1000 ∧ s ≤ 2305843009213693951 ∧ i < c:=by
 unfold isM at h
 split at h
 ·rename_i g0 g1 i g3 g4 σ c lo
  split at h
  ·rename_i a b s hs
   simp only [Bool.and_eq_true] at h
   exact ⟨g0,g1,g3,g4,i,σ,c,lo,a,b,s,rfl,hs,Nat.le_of_ble_eq_true h.1.1.1,Nat.le_of_ble_eq_true h.1.1.2,Nat.le_of_ble_eq_true h.1.2,Nat.le_of_ble_eq_true h.2⟩
  ·cases h
 ·cases h
theorem made_run:isM (xcallR Tryz.prog (xcode Tryz.prog EcM 100000) 4 [tz] glc [] 0) = true:=by kernel_rfl
theorem made_gs:∃ g0 g1 g3 g4 i σ c a b s,sget σ i = some ⟨61,idCells a b s,none⟩ ∧ a ≤ 1000 ∧ b ≤ 1000 ∧ s ≤ 2305843009213693951 ∧ i < c ∧ ∀ {o:Oper} {st:St} {x:Operand} {xs:Array Operand} {ats:Array TypeId},o.op = .call { callee:=.value x,args:=xs,argTypes:=ats } → (∀ d,o.dst = some d → d < st.n) → gev st x = .clo (.func 4) [] [] → xs.toList.map (gev st) = [tz] → st.gl = glc → st.σ = [] → st.c = 0 → GS Tryz.prog o st ({ st with σ:=σ,c:=c }.put o.dst (.agg [g0,g1,.rsl i 0 1,g3,g4])):=by
 obtain ⟨g0,g1,g3,g4,i,σ,c,lo,a,b,s,hl,h1,h2,h3,h4,h5⟩:=isM_spec made_run
 refine ⟨g0,g1,g3,g4,i,σ,c,a,b,s,h1,h2,h3,h4,h5,fun ho hd hx hxs hgl hσ hc => ?_⟩
 have hr:=(xcode_ok mixed tpcM_ok EcM_ok 100000).toRunOk
 refine (xcallR_gsn hr (fst:=[]) (cap:=[]) ho hd hx (by rw [hxs,hgl,hσ,hc]; exact hl)).gs ?_
 rintro s' ⟨q,hq,rfl⟩
 obtain rfl:=List.mem_singleton.1 hq
 rfl
end Go.Proofs.YtpehhhbmobmedaaGreatDoor
