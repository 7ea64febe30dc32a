/- What is asked over a part of the heap is enough for the whole: operations. -/
import Derived.Test.YtmfmhmipcdgikaaGreatDnQ
import Derived.Test.YtmfmhmipcdgikaaGreatDnI
namespace Go.Dn
def mJ (CA:CTA):CT:=λf args K Kp h=>∃ A L KA KpA,Sim A L h/\CA f args KA KpA A/\(∀ v A' h',Sim A' L h'->KA v A'->K v h')/\∀ v A' h',Sim A' L h'->KpA v A'->Kp v h'
section
variable {P:Program} {CA:CTA} {A:AH} {L:Bx} {h:Hp} {ρ ρ':Env}
theorem hZ {b:Bool} {X Y X' Y':Prop} (hx:X->X') (hy:Y->Y') (h:bsel b X Y):bsel b X' Y':=fP h hx hy
theorem qH {p:Option Addr} {K K':Addr->Prop} (hx:∀ a,K a->K' a) (h:aF p K):aF p K':=aB2 h hx
theorem mY {i:Int} {n:Nat} {K K':Prop} (hx:K->K') (h:bJ i n K):bJ i n K':=aHU h hx
theorem lP {v:Value} {K K':Addr->Prop} (hx:∀ a,K a->K' a) (h:iS v K):iS v K':=by
 unfold iS at h ⊢;split at h
 ·exact qH hx h
 ·exact h.elim
theorem aCC {v:Value} {K K':Value->Prop} (hx:∀ a,K a->K' a) (h:vJ v K):vJ v K':=by
 unfold vJ at h ⊢;split at h
 ·exact qH (λ_=>hx _) h
 ·exact hx _ h
 ·exact h.elim
theorem nF {op:BinOp} {b:Bool} {K K':Value->Prop} (hx:∀ a,K a->K' a) (h:xY op b K):xY op b K':=by
 unfold xY at h ⊢;split at h
 ·exact hx _ h
 ·exact hx _ h
 ·exact h.elim
theorem aI3 {op:BinOp} {k:IntKind} {a b:Int} {K K':Value->Prop} (hx:∀ a,K a->K' a) (h:arD op k a b K):arD op k a b K':=by
 unfold arD at h ⊢;split at h<;>first | exact hx _ h | exact hZ id (hx _) h | exact h.elim
theorem aIG {op:BinOp} {k:IntKind} {a b:Int} {K K':Value->Prop} (hx:∀ a,K a->K' a) (h:shD op k a b K):shD op k a b K':=by
 unfold shD at h ⊢;split at h<;>first | exact hZ id (hx _) h | exact h.elim
theorem aGQ {op:BinOp} {t:TypeId} {x y:Value} {K K':Value->Prop} (hx:∀ a,K a->K' a) (h:y6 P op t x y K):y6 P op t x y K':=by
 unfold y6 at h ⊢;split at h
 ·cases hs:isSh op with
  | true=>rw [hs] at h;exact aIG hx h
  | false=>rw [hs] at h;exact hZ (aI3 hx) id h
 ·cases e:P.underlying t with
  | none=>rw [e] at h;exact h.elim
  | some d=>
   rw [e] at h;cases d<;>first | exact nF hx h | exact h.elim
 ·cases e:P.underlying t with
  | none=>rw [e] at h;exact h.elim
  | some d=>
   rw [e] at h;cases d<;>first | exact nF hx h | exact h.elim
 ·cases e:P.underlying t with
  | none=>rw [e] at h;exact h.elim
  | some d=>
   rw [e] at h;cases d<;>first | exact nF hx h | exact h.elim
 ·cases e:P.underlying t with
  | none=>rw [e] at h;exact h.elim
  | some d=>
   rw [e] at h;cases d<;>first | exact nF hx h | exact h.elim
 ·split at h
  ·split at h
   ·exact nF hx h
   ·exact h.elim
  ·split at h
   ·obtain ⟨as,bs,h1,h2,h3,h4,h⟩:=h;exact ⟨as,bs,h1,h2,h3,h4,nF hx h⟩
   ·split at h
    ·exact nF hx h
    ·exact h.elim
   ·exact h.elim
  ·exact h.elim
 ·exact h.elim
theorem aJo {op:UnOp} {x:Value} {K K':Value->Prop} (hx:∀ a,K a->K' a) (h:unD op x K):unD op x K':=by
 unfold unD at h ⊢;split at h<;>first | exact hx _ h | exact h.elim
theorem aJt {s d:TypeId} {x:Value} {K K':Value->Prop} (hx:∀ a,K a->K' a) (h:cvD P s d x K):cvD P s d x K':=by
 unfold cvD at h ⊢;split at h
 ·exact hx _ h
 ·exact h.elim
theorem aFV {t:TypeId} {K K':Prop} (hx:K->K') (h:uR P t K):uR P t K':=by
 unfold uR at h ⊢;split at h
 ·exact hx h
 ·exact h.elim
theorem aIM {v:Value} {t:TypeId} {ok:Bool} {K K':Value->Prop} (hx:∀ a,K a->K' a) (h:taD P v t ok K):taD P v t ok K':=by
 unfold taD at h ⊢;split at h
 ·rename_i e1 _;exact eY (λ_=>hx _) h
 ·rename_i t' v' e1 _;split at h
  ·exact hx _ h
  ·exact eY (λ_=>hx _) h
 ·exact h.elim
theorem aGE {v:Value} {i:Nat} {K K':Value->Prop} (hx:∀ a,K a->K' a) (h:aBc v i K):aBc v i K':=by
 unfold aBc at h ⊢;split at h
 ·rename_i vs;cases e:vs.toList[i]? with
  | none=>rw [e] at h;exact h.elim
  | some u=>rw [e] at h;exact hx _ h
 ·exact h.elim
theorem rA {x:Option Value} {y d:Nat} {K K':Nat->Prop} (hx:∀ a,K a->K' a) (h:xV x y d K):xV x y d K':=by
 unfold xV at h ⊢;split at h
 ·exact mY (hx _) h
 ·exact h.elim
 ·exact hx _ h
theorem aHB {t:TypeId} {x:Value} {lo hi mx:Option Value} {K K':Value->Prop} (hx:∀ a,K a->K' a) (h:yO P t x lo hi mx K):yO P t x lo hi mx K':=by
 unfold yO at h ⊢;split at h
 ·split at h
  ·exact rA (λ_=>rA λ_=>rA λ_=>hx _) h
  ·exact h.elim
 ·split at h
  ·exact lP (λ_=>rA (λ_=>rA λ_=>rA λ_=>hx _)) h
  ·exact h.elim
 ·exact h.elim
theorem aHP {t:TypeId} {x:Value} {f:Nat} {K K':Value->Prop} (hx:∀ a,K a->K' a) (h:uD P t x f K):uD P t x f K':=by
 unfold uD at h ⊢;split at h
 ·split at h
  ·split at h
   ·split at h
    ·exact lP (λ_=>hx _) h
    ·exact h.elim
   ·exact h.elim
  ·exact h.elim
 ·exact h.elim
theorem aJP {t:TypeId} {x:Value} {f:Nat} {K K':Value->Prop} (hx:∀ a,K a->K' a) (h:fvD P t x f K):fvD P t x f K':=by
 unfold fvD at h ⊢;split at h
 ·split at h
  ·split at h
   ·split at h
    ·exact hx _ h
    ·split at h
     ·rename_i v e6;exact hx _ h
     ·exact h.elim
   ·exact h.elim
  ·exact h.elim
 ·exact h.elim
theorem aHx {t:TypeId} {x ix:Value} {K K':Value->Prop} (hx:∀ a,K a->K' a) (h:uT P t x ix K):uT P t x ix K':=by
 unfold uT at h ⊢;split at h
 ·split at h
  ·exact lP (λ_=>mY (hx _)) h
  ·exact h.elim
 ·split at h
  ·exact qH (λ_=>mY (hx _)) h
  ·exact h.elim
 ·exact h.elim
theorem aI7 {c:CK} {cs:List Value} {i:Nat} {K K':Value->Prop} (hx:∀ a,K a->K' a) (h:geC c cs i K):geC c cs i K':=by
 unfold geC at h ⊢;split at h
 ·exact aHM h λ_=>hx _
 ·exact aH7 h λ_=>hx _
 ·exact aIc h λ_=>hx _
 ·exact aHy h λ_=>hx _
 ·exact h.elim
theorem aI6 {l:List CK} {cs:List Value} {o k:Nat} {K K':List Value->Prop} (hx:∀ a,K a->K' a) (h:geL l cs o k K):geL l cs o k K':=nS hx h
theorem aHr {t:TypeId} {x ix:Value} {K K':Value->Prop} (hx:∀ a,K a->K' a) (h:yA P t x ix K):yA P t x ix K':=by
 unfold yA at h ⊢;split at h
 ·split at h
  ·split at h
   ·split at h
    ·exact mY (aI7 hx) h
    ·exact h.elim
   ·split at h
    ·split at h
     ·exact mY (aI6 λ_=>hx _) h
     ·exact h.elim
    ·exact mY (hx _) h
   ·exact h.elim
  ·exact h.elim
 ·exact h.elim
theorem aEl {c:Call} {K Kp:Value->AP} {K' Kp':Value->HP} (hρ:EnvLe ρ ρ') (s:Sim A L h) (hh:xU P CA ρ c A K Kp) (hx:∀ v A' h',Sim A' L h'->K v A'->K' v h') (hp:∀ v A' h',Sim A' L h'->Kp v A'->Kp' v h') :
  zQ P (mJ CA) ρ' c h K' Kp':=by
 unfold xU at hh;unfold zQ;generalize c.callee=ca at hh ⊢;cases ca
 ·refine aZ hρ (λfv h1=>?_) hh;split at h1
  ·exact vZ hρ (λvs h2=>⟨A,L,K,Kp,s,h2,hx,hp⟩) h1
  ·exact h1.elim
 ·exact hh.elim
 ·exact vZ hρ (λvs h2=>aGD s h2 hx hp) hh
theorem aGk {o:Oper} {K Kp:Value->AP} {Kd:Deferred->AP} {K' Kp':Value->HP} {Kd':Deferred->HP} (hρ:EnvLe ρ ρ') (s:Sim A L h) (hh:opV P CA ρ o A K Kp Kd)
  (hx:∀ v A' h',Sim A' L h'->K v A'->K' v h') (hp:∀ v A' h',Sim A' L h'->Kp v A'->Kp' v h') (hd:∀ v A' h',Sim A' L h'->Kd v A'->Kd' v h'):bN P (mJ CA) ρ' o h K' Kp' Kd':=by
 have hx0:∀ v,K v A->K' v h:=λv=>hx v _ _ s;unfold opV at hh;unfold bN;generalize o.op=op at hh ⊢;cases op
 case move=>
  exact aZ hρ hx0 hh
 case assign=>
  exact aZ hρ hx0 hh
 case pick=>
  refine aZ hρ (λvc h1=>?_) hh;split at h1
  ·exact hZ (aZ hρ hx0) (aZ hρ hx0) h1
  ·exact h1.elim
 case alloc=>
  exact eY (λz h1=>lY (K':=λb=>K' (.pointer (some ⟨b,0,none⟩))) s h1 λb=>hx _) hh
 case box=>
  exact aZ hρ (λv h1=>lY (K':=λb=>K' (.pointer (some ⟨b,0,none⟩))) s h1 λb=>hx _) hh
 case build=>
  refine aFD hρ (λvs h1=>?_) hh
  skip
  split at h1
  ·rename_i e;rw [e];exact hx0 _ h1
  ·exact h1.elim
 case buildSlice=>
  exact aFD hρ (λvs h1=>aIa s h1 hx) hh
 case load=>
  exact aZ hρ (λva=>lP λad h1=>aCs s h1 hx0) hh
 case store=>
  exact aZ hρ (λva=>lP λad=>aZ hρ λv h1=>aHT s h1 (hx _)) hh
 case nilCheck=>
  exact aZ hρ (λv=>aCC hx0) hh
 case binOp=>
  exact aZ hρ (λv=>aZ hρ λv'=>aGQ hx0) hh
 case unOp=>
  exact aZ hρ (λv=>aJo hx0) hh
 case convert=>
  exact aZ hρ (λv=>aJt hx0) hh
 case makeInterface=>
  exact aFV (aZ hρ λv=>hx0 _) hh
 case makeFunc=>
  exact vZ hρ (λa=>vZ hρ λb=>hx0 _) hh
 case makeMap t r=>
  cases r
  ·exact lY (K':=λb=>K' (.map (some b))) s hh λb=>hx _
  ·exact hh.elim
 case makeSlice=>
  exact aZ hρ (λl=>aZ hρ λc h1=>aHn s h1 hx) hh
 case slice=>
  exact aZ hρ (λv=>aEG hρ λl=>aEG hρ λi=>aEG hρ λm=>aHB hx0) hh
 case fieldAddr=>
  exact aZ hρ (λv=>aHP hx0) hh
 case field=>
  exact aZ hρ (λv=>aJP hx0) hh
 case indexAddr=>
  exact aZ hρ (λv=>aZ hρ λi=>aHx hx0) hh
 case index=>
  exact aZ hρ (λv=>aZ hρ λi=>aHr hx0) hh
 case lookup=>
  exact aZ hρ (λv=>aZ hρ λi h1=>aGI s h1 hx0) hh
 case mapUpdate=>
  exact aZ hρ (λv=>aZ hρ λi=>aZ hρ λx h1=>aCx s h1 (hx _)) hh
 case insert=>
  exact aZ hρ (λv=>aZ hρ λi=>aZ hρ λx h1=>aCx s h1 (hx _)) hh
 case mapEntry=>
  exact aZ hρ (λv=>aZ hρ λi h1=>aGV s h1 hx) hh
 case entryStore=>
  exact aZ hρ (λv=>aZ hρ λi=>aZ hρ λx h1=>aHg s h1 (hx _)) hh
 case range=>
  exact aZ hρ (λv h1=>aHf s h1 hx) hh
 case next it b=>
  cases b
  ·refine aZ hρ (λv h1=>?_) hh
   skip
   split at h1
   ·rename_i e;rw [e];simp only;split at h1
    ·rename_i e;rw [e];exact aCH s h1 hx
    ·rename_i e;rw [e];exact aCH s h1 hx
    ·exact h1.elim
   ·exact h1.elim
  ·exact hh.elim
 case entry=>
  exact aZ hρ (λv h1=>aG7 s h1 hx0) hh
 case typeAssert=>
  exact aZ hρ (λv=>aIM hx0) hh
 case extract=>
  exact aZ hρ (λv=>aGE hx0) hh
 case call=>
  exact aEl hρ s hh hx hp
 case defer c=>
  simp only at hh ⊢;generalize c.callee=ca at hh ⊢;cases ca
  ·refine aZ hρ (λfv h1=>?_) hh;split at h1
   ·exact vZ hρ (λvs=>hd _ _ _ s) h1
   ·exact h1.elim
  ·exact hh.elim
  ·exact hh.elim
 case panic=>
  refine aZ hρ (λv h1=>?_) hh;split at h1
  ·exact hp _ _ _ s h1
  ·exact h1.elim
 all_goals exact hh.elim
end
end Go.Dn
