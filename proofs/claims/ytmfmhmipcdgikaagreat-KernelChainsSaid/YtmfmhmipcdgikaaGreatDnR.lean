/- What is asked over a part of the heap is enough for the whole: operations. -/
import Derived.Test.YtmfmhmipcdgikaaGreatDnQ
import Derived.Test.YtmfmhmipcdgikaaGreatDnI
namespace Go.Dn
def nI (CA:CTA):CT:=λf args K Kp h=>∃ A L KA KpA,Sim A L h/\CA f args KA KpA A/\(∀ v A' h',Sim A' L h'->KA v A'->K v h')/\∀ v A' h',Sim A' L h'->KpA v A'->Kp v h'
section
variable {P:Program} {CA:CTA} {A:AH} {L:Bx} {h:Hp} {ρ ρ':Env}
theorem iT {b:Bool} {X Y X' Y':Prop} (hx:X->X') (hy:Y->Y') (h:bsel b X Y):bsel b X' Y':=f7 h hx hy
theorem rE {p:Option Addr} {K K':Addr->Prop} (hx:∀ a,K a->K' a) (h:aF p K):aF p K':=aCC h hx
theorem nU {i:Int} {n:Nat} {K K':Prop} (hx:K->K') (h:bF i n K):bF i n K':=aIA h hx
theorem mN {v:Value} {K K':Addr->Prop} (hx:∀ a,K a->K' a) (h:jN v K):jN v K':=by
 unfold jN at h ⊢;split at h
 ·exact rE hx h
 ·exact h.elim
theorem aDQ {v:Value} {K K':Value->Prop} (hx:∀ a,K a->K' a) (h:wZ v K):wZ v K':=by
 unfold wZ at h ⊢;split at h
 ·exact rE (λ_=>hx _) h
 ·exact hx _ h
 ·exact h.elim
theorem oO {op:BinOp} {b:Bool} {K K':Value->Prop} (hx:∀ a,K a->K' a) (h:z7 op b K):z7 op b K':=by
 unfold z7 at h ⊢;split at h
 ·exact hx _ h
 ·exact hx _ h
 ·exact h.elim
theorem aKU {op:BinOp} {k:IntKind} {a b:Int} {K K':Value->Prop} (hx:∀ a,K a->K' a) (h:arD op k a b K):arD op k a b K':=by
 unfold arD at h ⊢;split at h<;>first | exact hx _ h | exact iT id (hx _) h | exact h.elim
theorem aJN {op:BinOp} {k:IntKind} {a b:Int} {K K':Value->Prop} (hx:∀ a,K a->K' a) (h:shD op k a b K):shD op k a b K':=by
 unfold shD at h ⊢;split at h<;>first | exact iT id (hx _) h | exact h.elim
theorem aJh {op:BinOp} {t:TypeId} {x y:Value} {K K':Value->Prop} (hx:∀ a,K a->K' a) (h:aAm P op t x y K):aAm P op t x y K':=by
 unfold aAm at h ⊢;split at h
 ·cases hs:isSh op with
  | true=>rw [hs] at h;exact aJN hx h
  | false=>rw [hs] at h;exact iT (aKU hx) id h
 ·cases e:P.underlying t with
  | none=>rw [e] at h;exact h.elim
  | some d=>
   rw [e] at h;cases d<;>first | exact oO hx h | exact h.elim
 ·cases e:P.underlying t with
  | none=>rw [e] at h;exact h.elim
  | some d=>
   rw [e] at h;cases d<;>first | exact oO hx h | exact h.elim
 ·cases e:P.underlying t with
  | none=>rw [e] at h;exact h.elim
  | some d=>
   rw [e] at h;cases d<;>first | exact oO hx h | exact h.elim
 ·cases e:P.underlying t with
  | none=>rw [e] at h;exact h.elim
  | some d=>
   rw [e] at h;cases d<;>first | exact oO hx h | exact h.elim
 ·split at h
  ·split at h
   ·exact oO hx h
   ·exact h.elim
  ·split at h
   ·obtain ⟨as,bs,h1,h2,h3,h4,h⟩:=h;exact ⟨as,bs,h1,h2,h3,h4,oO hx h⟩
   ·split at h
    ·exact oO hx h
    ·exact h.elim
   ·exact h.elim
  ·exact h.elim
 ·exact h.elim
theorem aKw {op:UnOp} {x:Value} {K K':Value->Prop} (hx:∀ a,K a->K' a) (h:unD op x K):unD op x K':=by
 unfold unD at h ⊢;split at h<;>first | exact hx _ h | exact h.elim
theorem aK4 {s d:TypeId} {x:Value} {K K':Value->Prop} (hx:∀ a,K a->K' a) (h:cvD P s d x K):cvD P s d x K':=by
 unfold cvD at h ⊢;split at h
 ·exact hx _ h
 ·exact h.elim
theorem aGs {t:TypeId} {K K':Prop} (hx:K->K') (h:u5 P t K):u5 P t K':=by
 unfold u5 at h ⊢;split at h
 ·exact hx h
 ·exact h.elim
theorem aKt {v:Value} {t:TypeId} {ok:Bool} {K K':Value->Prop} (hx:∀ a,K a->K' a) (h:taD P v t ok K):taD P v t ok K':=by
 unfold taD at h ⊢;split at h
 ·rename_i e1 _;exact fG (λ_=>hx _) h
 ·rename_i t' v' e1 _;split at h
  ·exact hx _ h
  ·exact fG (λ_=>hx _) h
 ·exact h.elim
theorem aHG {v:Value} {i:Nat} {K K':Value->Prop} (hx:∀ a,K a->K' a) (h:aBq v i K):aBq v i K':=by
 unfold aBq at h ⊢;split at h
 ·rename_i vs;cases e:vs.toList[i]? with
  | none=>rw [e] at h;exact h.elim
  | some u=>rw [e] at h;exact hx _ h
 ·exact h.elim
theorem sB {x:Option Value} {y d:Nat} {K K':Nat->Prop} (hx:∀ a,K a->K' a) (h:bdD x y d K):bdD x y d K':=by
 unfold bdD at h ⊢;split at h
 ·exact nU (hx _) h
 ·exact h.elim
 ·exact hx _ h
theorem aHX {t:TypeId} {x:Value} {lo hi mx:Option Value} {K K':Value->Prop} (hx:∀ a,K a->K' a) (h:aAs P t x lo hi mx K):aAs P t x lo hi mx K':=by
 unfold aAs at h ⊢;split at h
 ·split at h
  ·exact sB (λ_=>sB λ_=>sB λ_=>hx _) h
  ·exact h.elim
 ·split at h
  ·exact mN (λ_=>sB (λ_=>sB λ_=>sB λ_=>hx _)) h
  ·exact h.elim
 ·exact h.elim
theorem aH4 {t:TypeId} {x:Value} {f:Nat} {K K':Value->Prop} (hx:∀ a,K a->K' a) (h:uM P t x f K):uM P t x f K':=by
 unfold uM at h ⊢;split at h
 ·split at h
  ·split at h
   ·split at h
    ·exact mN (λ_=>hx _) h
    ·exact h.elim
   ·exact h.elim
  ·exact h.elim
 ·exact h.elim
theorem aK0 {t:TypeId} {x:Value} {f:Nat} {K K':Value->Prop} (hx:∀ a,K a->K' a) (h:fvD P t x f K):fvD P t x f K':=by
 unfold fvD at h ⊢;split at h
 ·split at h
  ·split at h
   ·split at h
    ·exact hx _ h
    ·split at h
     ·rename_i v e6;exact hx _ h
     ·exact h.elim
   ·exact h.elim
  ·exact h.elim
 ·exact h.elim
theorem aIz {t:TypeId} {x ix:Value} {K K':Value->Prop} (hx:∀ a,K a->K' a) (h:u6 P t x ix K):u6 P t x ix K':=by
 unfold u6 at h ⊢;split at h
 ·split at h
  ·exact mN (λ_=>nU (hx _)) h
  ·exact h.elim
 ·split at h
  ·exact rE (λ_=>nU (hx _)) h
  ·exact h.elim
 ·exact h.elim
theorem aKG {c:CK} {cs:List Value} {i:Nat} {K K':Value->Prop} (hx:∀ a,K a->K' a) (h:geC c cs i K):geC c cs i K':=by
 unfold geC at h ⊢;split at h
 ·exact aIh h λ_=>hx _
 ·exact aIm h λ_=>hx _
 ·exact aI4 h λ_=>hx _
 ·exact aIX h λ_=>hx _
 ·exact h.elim
theorem aKc {l:List CK} {cs:List Value} {o k:Nat} {K K':List Value->Prop} (hx:∀ a,K a->K' a) (h:geL l cs o k K):geL l cs o k K':=qC hx h
theorem aJb {t:TypeId} {x ix:Value} {K K':Value->Prop} (hx:∀ a,K a->K' a) (h:z8 P t x ix K):z8 P t x ix K':=by
 unfold z8 at h ⊢;split at h
 ·split at h
  ·split at h
   ·split at h
    ·exact nU (aKG hx) h
    ·exact h.elim
   ·split at h
    ·split at h
     ·exact nU (aKc λ_=>hx _) h
     ·exact h.elim
    ·exact nU (hx _) h
   ·exact h.elim
  ·exact h.elim
 ·exact h.elim
theorem aEM {c:Call} {K Kp:Value->AP} {K' Kp':Value->HP} (hρ:EnvLe ρ ρ') (s:Sim A L h) (hh:aAr P CA ρ c A K Kp) (hx:∀ v A' h',Sim A' L h'->K v A'->K' v h') (hp:∀ v A' h',Sim A' L h'->Kp v A'->Kp' v h') :
  aAE P (nI CA) ρ' c h K' Kp':=by
 unfold aAr at hh;unfold aAE;generalize c.callee=ca at hh ⊢;cases ca
 ·refine bC hρ (λfv h1=>?_) hh;split at h1
  ·exact y7 hρ (λvs h2=>⟨A,L,K,Kp,s,h2,hx,hp⟩) h1
  ·exact h1.elim
 ·exact hh.elim
 ·exact y7 hρ (λvs h2=>aHV s h2 hx hp) hh
theorem aGY {o:Oper} {K Kp:Value->AP} {Kd:Deferred->AP} {K' Kp':Value->HP} {Kd':Deferred->HP} (hρ:EnvLe ρ ρ') (s:Sim A L h) (hh:opV P CA ρ o A K Kp Kd)
  (hx:∀ v A' h',Sim A' L h'->K v A'->K' v h') (hp:∀ v A' h',Sim A' L h'->Kp v A'->Kp' v h') (hd:∀ v A' h',Sim A' L h'->Kd v A'->Kd' v h'):bO P (nI CA) ρ' o h K' Kp' Kd':=by
 have hx0:∀ v,K v A->K' v h:=λv=>hx v _ _ s;unfold opV at hh;unfold bO;generalize o.op=op at hh ⊢;cases op
 case move=>
  exact bC hρ hx0 hh
 case assign=>
  exact bC hρ hx0 hh
 case pick=>
  refine bC hρ (λvc h1=>?_) hh;split at h1
  ·exact iT (bC hρ hx0) (bC hρ hx0) h1
  ·exact h1.elim
 case alloc=>
  exact fG (λz h1=>mM (K':=λb=>K' (.pointer (some ⟨b,0,none⟩))) s h1 λb=>hx _) hh
 case box=>
  exact bC hρ (λv h1=>mM (K':=λb=>K' (.pointer (some ⟨b,0,none⟩))) s h1 λb=>hx _) hh
 case build=>
  refine aHk hρ (λvs h1=>?_) hh
  skip
  split at h1
  ·rename_i e;rw [e];exact hx0 _ h1
  ·exact h1.elim
 case buildSlice=>
  exact aHk hρ (λvs h1=>aHP s h1 hx) hh
 case load=>
  exact bC hρ (λva=>mN λad h1=>aDG s h1 hx0) hh
 case store=>
  exact bC hρ (λva=>mN λad=>bC hρ λv h1=>aIq s h1 (hx _)) hh
 case nilCheck=>
  exact bC hρ (λv=>aDQ hx0) hh
 case binOp=>
  exact bC hρ (λv=>bC hρ λv'=>aJh hx0) hh
 case unOp=>
  exact bC hρ (λv=>aKw hx0) hh
 case convert=>
  exact bC hρ (λv=>aK4 hx0) hh
 case makeInterface=>
  exact aGs (bC hρ λv=>hx0 _) hh
 case makeFunc=>
  exact y7 hρ (λa=>y7 hρ λb=>hx0 _) hh
 case makeMap t r=>
  cases r
  ·exact mM (K':=λb=>K' (.map (some b))) s hh λb=>hx _
  ·exact hh.elim
 case makeSlice=>
  exact bC hρ (λl=>bC hρ λc h1=>aIs s h1 hx) hh
 case slice=>
  exact bC hρ (λv=>aG6 hρ λl=>aG6 hρ λi=>aG6 hρ λm=>aHX hx0) hh
 case fieldAddr=>
  exact bC hρ (λv=>aH4 hx0) hh
 case field=>
  exact bC hρ (λv=>aK0 hx0) hh
 case indexAddr=>
  exact bC hρ (λv=>bC hρ λi=>aIz hx0) hh
 case index=>
  exact bC hρ (λv=>bC hρ λi=>aJb hx0) hh
 case lookup=>
  exact bC hρ (λv=>bC hρ λi h1=>aHy s h1 hx0) hh
 case mapUpdate=>
  exact bC hρ (λv=>bC hρ λi=>bC hρ λx h1=>aDV s h1 (hx _)) hh
 case insert=>
  exact bC hρ (λv=>bC hρ λi=>bC hρ λx h1=>aDV s h1 (hx _)) hh
 case mapEntry=>
  exact bC hρ (λv=>bC hρ λi h1=>aJa s h1 hx) hh
 case entryStore=>
  exact bC hρ (λv=>bC hρ λi=>bC hρ λx h1=>aIF s h1 (hx _)) hh
 case range=>
  exact bC hρ (λv h1=>aIQ s h1 hx) hh
 case next it b=>
  cases b
  ·refine bC hρ (λv h1=>?_) hh
   skip
   split at h1
   ·rename_i e;rw [e];simp only;split at h1
    ·rename_i e;rw [e];exact aDx s h1 hx
    ·rename_i e;rw [e];exact aDx s h1 hx
    ·exact h1.elim
   ·exact h1.elim
  ·exact hh.elim
 case entry=>
  exact bC hρ (λv h1=>aId s h1 hx0) hh
 case typeAssert=>
  exact bC hρ (λv=>aKt hx0) hh
 case extract=>
  exact bC hρ (λv=>aHG hx0) hh
 case call=>
  exact aEM hρ s hh hx hp
 case defer c=>
  simp only at hh ⊢;generalize c.callee=ca at hh ⊢;cases ca
  ·refine bC hρ (λfv h1=>?_) hh;split at h1
   ·exact y7 hρ (λvs=>hd _ _ _ s) h1
   ·exact h1.elim
  ·exact hh.elim
  ·exact hh.elim
 case panic=>
  refine bC hρ (λv h1=>?_) hh;split at h1
  ·exact hp _ _ _ s h1
  ·exact h1.elim
 all_goals exact hh.elim
end
end Go.Dn
