/- What is asked over a part of the heap is enough for the whole: operations. -/
import Derived.Test.YtmfmhmipcdgikaaGreatDnQ
import Derived.Test.YtmfmhmipcdgikaaGreatDnI
namespace Go.Dn
def upC (CA:CTA):CT:=fun f args K Kp h=>∃ A L KA KpA,Sim A L h∧CA f args KA KpA A∧(∀ v A' h',Sim A' L h'→KA v A'→K v h')∧∀ v A' h',Sim A' L h'→KpA v A'→Kp v h'
section
variable {P:Program} {CA:CTA} {A:AH} {L:Bx} {h:Hp} {ρ ρ':Env}
theorem bsel_up {b:Bool} {X Y X' Y':Prop} (hx:X→X') (hy:Y→Y') (h:bsel b X Y):bsel b X' Y':=bsel_pro h hx hy
theorem onSome_up {p:Option Addr} {K K':Addr→Prop} (hx:∀ a,K a→K' a) (h:onSome p K):onSome p K':=onSome_pro h hx
theorem inB_up {i:Int} {n:Nat} {K K':Prop} (hx:K→K') (h:inB i n K):inB i n K':=inB_pro h hx
theorem asAd_up {v:Value} {K K':Addr→Prop} (hx:∀ a,K a→K' a) (h:asAd v K):asAd v K':=by
 unfold asAd at h ⊢
 split at h
 ·exact onSome_up hx h
 ·exact h.elim
theorem nilD_up {v:Value} {K K':Value→Prop} (hx:∀ a,K a→K' a) (h:nilD v K):nilD v K':=by
 unfold nilD at h ⊢
 split at h
 ·exact onSome_up (fun _=>hx _) h
 ·exact hx _ h
 ·exact h.elim
theorem eqD_up {op:BinOp} {b:Bool} {K K':Value→Prop} (hx:∀ a,K a→K' a) (h:eqD op b K):eqD op b K':=by
 unfold eqD at h ⊢
 split at h
 ·exact hx _ h
 ·exact hx _ h
 ·exact h.elim
theorem arD_up {op:BinOp} {k:IntKind} {a b:Int} {K K':Value→Prop} (hx:∀ a,K a→K' a) (h:arD op k a b K):arD op k a b K':=by
 unfold arD at h ⊢
 split at h<;>first | exact hx _ h | exact bsel_up id (hx _) h | exact h.elim
theorem shD_up {op:BinOp} {k:IntKind} {a b:Int} {K K':Value→Prop} (hx:∀ a,K a→K' a) (h:shD op k a b K):shD op k a b K':=by
 unfold shD at h ⊢
 split at h<;>first | exact bsel_up id (hx _) h | exact h.elim
theorem binD_up {op:BinOp} {t:TypeId} {x y:Value} {K K':Value→Prop} (hx:∀ a,K a→K' a) (h:binD P op t x y K):binD P op t x y K':=by
 unfold binD at h ⊢
 split at h
 ·cases hs:isSh op with
  | true=>rw [hs] at h;exact shD_up hx h
  | false=>rw [hs] at h;exact bsel_up (arD_up hx) id h
 ·cases e:P.underlying t with
  | none=>rw [e] at h;exact h.elim
  | some d=>
   rw [e] at h
   cases d<;>first | exact eqD_up hx h | exact h.elim
 ·cases e:P.underlying t with
  | none=>rw [e] at h;exact h.elim
  | some d=>
   rw [e] at h
   cases d<;>first | exact eqD_up hx h | exact h.elim
 ·cases e:P.underlying t with
  | none=>rw [e] at h;exact h.elim
  | some d=>
   rw [e] at h
   cases d<;>first | exact eqD_up hx h | exact h.elim
 ·cases e:P.underlying t with
  | none=>rw [e] at h;exact h.elim
  | some d=>
   rw [e] at h
   cases d<;>first | exact eqD_up hx h | exact h.elim
 ·split at h
  ·split at h
   ·exact eqD_up hx h
   ·exact h.elim
  ·split at h
   ·obtain ⟨as,bs,h1,h2,h3,h4,h⟩:=h
    exact ⟨as,bs,h1,h2,h3,h4,eqD_up hx h⟩
   ·split at h
    ·exact eqD_up hx h
    ·exact h.elim
   ·exact h.elim
  ·exact h.elim
 ·exact h.elim
theorem unD_up {op:UnOp} {x:Value} {K K':Value→Prop} (hx:∀ a,K a→K' a) (h:unD op x K):unD op x K':=by
 unfold unD at h ⊢
 split at h<;>first | exact hx _ h | exact h.elim
theorem cvD_up {s d:TypeId} {x:Value} {K K':Value→Prop} (hx:∀ a,K a→K' a) (h:cvD P s d x K):cvD P s d x K':=by
 unfold cvD at h ⊢
 split at h
 ·exact hx _ h
 ·exact h.elim
theorem concD_up {t:TypeId} {K K':Prop} (hx:K→K') (h:concD P t K):concD P t K':=by
 unfold concD at h ⊢
 split at h
 ·exact hx h
 ·exact h.elim
theorem taD_up {v:Value} {t:TypeId} {ok:Bool} {K K':Value→Prop} (hx:∀ a,K a→K' a) (h:taD P v t ok K):taD P v t ok K':=by
 unfold taD at h ⊢
 split at h
 ·rename_i e1 _;exact zeroD_mono (fun _=>hx _) h
 ·rename_i t' v' e1 _
  split at h
  ·exact hx _ h
  ·exact zeroD_mono (fun _=>hx _) h
 ·exact h.elim
theorem extD_up {v:Value} {i:Nat} {K K':Value→Prop} (hx:∀ a,K a→K' a) (h:extD v i K):extD v i K':=by
 unfold extD at h ⊢
 split at h
 ·rename_i vs
  cases e:vs.toList[i]? with
  | none=>rw [e] at h;exact h.elim
  | some u=>rw [e] at h;exact hx _ h
 ·exact h.elim
theorem bdD_up {x:Option Value} {y d:Nat} {K K':Nat→Prop} (hx:∀ a,K a→K' a) (h:bdD x y d K):bdD x y d K':=by
 unfold bdD at h ⊢
 split at h
 ·exact inB_up (hx _) h
 ·exact h.elim
 ·exact hx _ h
theorem slcD_up {t:TypeId} {x:Value} {lo hi mx:Option Value} {K K':Value→Prop} (hx:∀ a,K a→K' a) (h:slcD P t x lo hi mx K):slcD P t x lo hi mx K':=by
 unfold slcD at h ⊢
 split at h
 ·split at h
  ·exact bdD_up (fun _=>bdD_up fun _=>bdD_up fun _=>hx _) h
  ·exact h.elim
 ·split at h
  ·exact asAd_up (fun _=>bdD_up (fun _=>bdD_up fun _=>bdD_up fun _=>hx _)) h
  ·exact h.elim
 ·exact h.elim
theorem fldD_up {t:TypeId} {x:Value} {f:Nat} {K K':Value→Prop} (hx:∀ a,K a→K' a) (h:fldD P t x f K):fldD P t x f K':=by
 unfold fldD at h ⊢
 split at h
 ·split at h
  ·split at h
   ·split at h
    ·exact asAd_up (fun _=>hx _) h
    ·exact h.elim
   ·exact h.elim
  ·exact h.elim
 ·exact h.elim
theorem fvD_up {t:TypeId} {x:Value} {f:Nat} {K K':Value→Prop} (hx:∀ a,K a→K' a) (h:fvD P t x f K):fvD P t x f K':=by
 unfold fvD at h ⊢
 split at h
 ·split at h
  ·split at h
   ·split at h
    ·exact hx _ h
    ·split at h
     ·rename_i v e6;exact hx _ h
     ·exact h.elim
   ·exact h.elim
  ·exact h.elim
 ·exact h.elim
theorem ixaD_up {t:TypeId} {x ix:Value} {K K':Value→Prop} (hx:∀ a,K a→K' a) (h:ixaD P t x ix K):ixaD P t x ix K':=by
 unfold ixaD at h ⊢
 split at h
 ·split at h
  ·exact asAd_up (fun _=>inB_up (hx _)) h
  ·exact h.elim
 ·split at h
  ·exact onSome_up (fun _=>inB_up (hx _)) h
  ·exact h.elim
 ·exact h.elim
theorem geC_up {c:CK} {cs:List Value} {i:Nat} {K K':Value→Prop} (hx:∀ a,K a→K' a) (h:geC c cs i K):geC c cs i K':=by
 unfold geC at h ⊢
 split at h
 ·exact geI_pro h fun _=>hx _
 ·exact geB_pro h fun _=>hx _
 ·exact geP_pro h fun _=>hx _
 ·exact geM_pro h fun _=>hx _
 ·exact h.elim
theorem geL_up {l:List CK} {cs:List Value} {o k:Nat} {K K':List Value→Prop} (hx:∀ a,K a→K' a) (h:geL l cs o k K):geL l cs o k K':=geL_mono hx h
theorem idxD_up {t:TypeId} {x ix:Value} {K K':Value→Prop} (hx:∀ a,K a→K' a) (h:idxD P t x ix K):idxD P t x ix K':=by
 unfold idxD at h ⊢
 split at h
 ·split at h
  ·split at h
   ·split at h
    ·exact inB_up (geC_up hx) h
    ·exact h.elim
   ·split at h
    ·split at h
     ·exact inB_up (geL_up fun _=>hx _) h
     ·exact h.elim
    ·exact inB_up (hx _) h
   ·exact h.elim
  ·exact h.elim
 ·exact h.elim
theorem callDA_up {c:Call} {K Kp:Value→AP} {K' Kp':Value→HP} (hρ:EnvLe ρ ρ') (s:Sim A L h) (hh:callDA P CA ρ c A K Kp) (hx:∀ v A' h',Sim A' L h'→K v A'→K' v h') (hp:∀ v A' h',Sim A' L h'→Kp v A'→Kp' v h') :
  callD P (upC CA) ρ' c h K' Kp':=by
 unfold callDA at hh
 unfold callD
 generalize c.callee=ca at hh ⊢
 cases ca
 ·refine wV_up hρ (fun fv h1=>?_) hh
  split at h1
  ·exact wL_up hρ (fun vs h2=>⟨A,L,K,Kp,s,h2,hx,hp⟩) h1
  ·exact h1.elim
 ·exact hh.elim
 ·exact wL_up hρ (fun vs h2=>biDA_up s h2 hx hp) hh
theorem opV_up {o:Oper} {K Kp:Value→AP} {Kd:Deferred→AP} {K' Kp':Value→HP} {Kd':Deferred→HP} (hρ:EnvLe ρ ρ') (s:Sim A L h) (hh:opV P CA ρ o A K Kp Kd)
  (hx:∀ v A' h',Sim A' L h'→K v A'→K' v h') (hp:∀ v A' h',Sim A' L h'→Kp v A'→Kp' v h') (hd:∀ v A' h',Sim A' L h'→Kd v A'→Kd' v h'):denOp P (upC CA) ρ' o h K' Kp' Kd':=by
 have hx0:∀ v,K v A→K' v h:=fun v=>hx v _ _ s
 unfold opV at hh
 unfold denOp
 generalize o.op=op at hh ⊢
 cases op
 case move=>
  exact wV_up hρ hx0 hh
 case assign=>
  exact wV_up hρ hx0 hh
 case pick=>
  refine wV_up hρ (fun vc h1=>?_) hh
  split at h1
  ·exact bsel_up (wV_up hρ hx0) (wV_up hρ hx0) h1
  ·exact h1.elim
 case alloc=>
  exact zeroD_mono (fun z h1=>newA_up (K':=fun b=>K' (.pointer (some ⟨b,0,none⟩))) s h1 fun b=>hx _) hh
 case box=>
  exact wV_up hρ (fun v h1=>newA_up (K':=fun b=>K' (.pointer (some ⟨b,0,none⟩))) s h1 fun b=>hx _) hh
 case build=>
  refine wP_up hρ (fun vs h1=>?_) hh
  skip
  split at h1
  ·rename_i e;rw [e];exact hx0 _ h1
  ·exact h1.elim
 case buildSlice=>
  exact wP_up hρ (fun vs h1=>bsDA_up s h1 hx) hh
 case load=>
  exact wV_up hρ (fun va=>asAd_up fun ad h1=>ldDA_up s h1 hx0) hh
 case store=>
  exact wV_up hρ (fun va=>asAd_up fun ad=>wV_up hρ fun v h1=>stDA_up s h1 (hx _)) hh
 case nilCheck=>
  exact wV_up hρ (fun v=>nilD_up hx0) hh
 case binOp=>
  exact wV_up hρ (fun v=>wV_up hρ fun v'=>binD_up hx0) hh
 case unOp=>
  exact wV_up hρ (fun v=>unD_up hx0) hh
 case convert=>
  exact wV_up hρ (fun v=>cvD_up hx0) hh
 case makeInterface=>
  exact concD_up (wV_up hρ fun v=>hx0 _) hh
 case makeFunc=>
  exact wL_up hρ (fun a=>wL_up hρ fun b=>hx0 _) hh
 case makeMap t r=>
  cases r
  ·exact newA_up (K':=fun b=>K' (.map (some b))) s hh fun b=>hx _
  ·exact hh.elim
 case makeSlice=>
  exact wV_up hρ (fun l=>wV_up hρ fun c h1=>mkDA_up s h1 hx) hh
 case slice=>
  exact wV_up hρ (fun v=>wO_up hρ fun l=>wO_up hρ fun i=>wO_up hρ fun m=>slcD_up hx0) hh
 case fieldAddr=>
  exact wV_up hρ (fun v=>fldD_up hx0) hh
 case field=>
  exact wV_up hρ (fun v=>fvD_up hx0) hh
 case indexAddr=>
  exact wV_up hρ (fun v=>wV_up hρ fun i=>ixaD_up hx0) hh
 case index=>
  exact wV_up hρ (fun v=>wV_up hρ fun i=>idxD_up hx0) hh
 case lookup=>
  exact wV_up hρ (fun v=>wV_up hρ fun i h1=>lkDA_up s h1 hx0) hh
 case mapUpdate=>
  exact wV_up hρ (fun v=>wV_up hρ fun i=>wV_up hρ fun x h1=>muDA_up s h1 (hx _)) hh
 case insert=>
  exact wV_up hρ (fun v=>wV_up hρ fun i=>wV_up hρ fun x h1=>muDA_up s h1 (hx _)) hh
 case mapEntry=>
  exact wV_up hρ (fun v=>wV_up hρ fun i h1=>meDA_up s h1 hx) hh
 case entryStore=>
  exact wV_up hρ (fun v=>wV_up hρ fun i=>wV_up hρ fun x h1=>esDA_up s h1 (hx _)) hh
 case range=>
  exact wV_up hρ (fun v h1=>rgDA_up s h1 hx) hh
 case next it b=>
  cases b
  ·refine wV_up hρ (fun v h1=>?_) hh
   skip
   split at h1
   ·rename_i e
    rw [e]
    simp only
    split at h1
    ·rename_i e;rw [e];exact nxDA_up s h1 hx
    ·rename_i e;rw [e];exact nxDA_up s h1 hx
    ·exact h1.elim
   ·exact h1.elim
  ·exact hh.elim
 case entry=>
  exact wV_up hρ (fun v h1=>eyDA_up s h1 hx0) hh
 case typeAssert=>
  exact wV_up hρ (fun v=>taD_up hx0) hh
 case extract=>
  exact wV_up hρ (fun v=>extD_up hx0) hh
 case call=>
  exact callDA_up hρ s hh hx hp
 case defer c=>
  simp only at hh ⊢
  generalize c.callee=ca at hh ⊢
  cases ca
  ·refine wV_up hρ (fun fv h1=>?_) hh
   split at h1
   ·exact wL_up hρ (fun vs=>hd _ _ _ s) h1
   ·exact h1.elim
  ·exact hh.elim
  ·exact hh.elim
 case panic=>
  refine wV_up hρ (fun v h1=>?_) hh
  split at h1
  ·exact hp _ _ _ s h1
  ·exact h1.elim
 all_goals exact hh.elim
end
end Go.Dn
