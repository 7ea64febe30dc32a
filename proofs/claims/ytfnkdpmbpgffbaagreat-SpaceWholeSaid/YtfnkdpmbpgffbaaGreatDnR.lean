/- What is asked over a part of the heap is enough for the whole: operations. -/
import Derived.Test.YtfnkdpmbpgffbaaGreatDnQ
import Derived.Test.YtfnkdpmbpgffbaaGreatDnI
namespace Go.Dn
def qX (CA:CTA):CT:=λf args K Kp h=>∃ A L KA KpA,Sim A L h/\CA f args KA KpA A/\(∀ v A' h',Sim A' L h'->KA v A'->K v h')/\∀ v A' h',Sim A' L h'->KpA v A'->Kp v h'
section
variable {P:Program} {CA:CTA} {A:AH} {L:Bx} {h:Hp} {ρ ρ':Env}
theorem jO {b:Bool} {X Y a c:Prop} (d:X->a) (e:Y->c) (h:bsel b X Y):bsel b a c:=gM h d e
theorem tG {p:Option Addr} {K K':Addr->Prop} (b:∀ a,K a->K' a) (h:aF p K):aF p K':=aEh h b
theorem pW {i:Int} {n:Nat} {K K':Prop} (a:K->K') (h:bB i n K):bB i n K':=aJA h a
theorem oO {v:Value} {K K':Addr->Prop} (b:∀ a,K a->K' a) (h:kV v K):kV v K':=by
 unfold kV at h ⊢;split at h
 .exact tG b h
 .exact h.elim
theorem aEY {v:Value} {K K':Value->Prop} (b:∀ a,K a->K' a) (h:zC v K):zC v K':=by
 unfold zC at h ⊢;split at h
 .exact tG (λ_=>b _) h
 .exact b _ h
 .exact h.elim
theorem pL {c:BinOp} {b:Bool} {K K':Value->Prop} (d:∀ a,K a->K' a) (h:eqD c b K):eqD c b K':=by
 unfold eqD at h ⊢;split at h
 .exact d _ h
 .exact d _ h
 .exact h.elim
theorem aLz {c:BinOp} {k:IntKind} {a b:Int} {K K':Value->Prop} (d:∀ a,K a->K' a) (h:arD c k a b K):arD c k a b K':=by
 unfold arD at h ⊢;split at h<;>first | exact d _ h | exact jO id (d _) h | exact h.elim
theorem aK3 {c:BinOp} {k:IntKind} {a b:Int} {K K':Value->Prop} (d:∀ a,K a->K' a) (h:shD c k a b K):shD c k a b K':=by
 unfold shD at h ⊢;split at h<;>first | exact jO id (d _) h | exact h.elim
theorem aJb {c:BinOp} {t:TypeId} {x y:Value} {K K':Value->Prop} (b:∀ a,K a->K' a) (h:aAY P c t x y K):aAY P c t x y K':=by
 unfold aAY at h ⊢;split at h
 .cases hs:isSh c with
  | true=>rw [hs] at h;exact aK3 b h
  | false=>rw [hs] at h;exact jO (aLz b) id h
 .cases e:P.underlying t with
  | none=>rw [e] at h;exact h.elim
  | some d=>
   rw [e] at h;cases d<;>first | exact pL b h | exact h.elim
 .cases e:P.underlying t with
  | none=>rw [e] at h;exact h.elim
  | some d=>
   rw [e] at h;cases d<;>first | exact pL b h | exact h.elim
 .cases e:P.underlying t with
  | none=>rw [e] at h;exact h.elim
  | some d=>
   rw [e] at h;cases d<;>first | exact pL b h | exact h.elim
 .cases e:P.underlying t with
  | none=>rw [e] at h;exact h.elim
  | some d=>
   rw [e] at h;cases d<;>first | exact pL b h | exact h.elim
 .split at h
  .split at h
   .exact pL b h
   .exact h.elim
  .split at h
   .obtain ⟨as,f,g,i,j,k,h⟩:=h;exact ⟨as,f,g,i,j,k,pL b h⟩
   .split at h
    .exact pL b h
    .exact h.elim
   .exact h.elim
  .exact h.elim
 .exact h.elim
theorem aL9 {b:UnOp} {x:Value} {K K':Value->Prop} (c:∀ a,K a->K' a) (h:unD b x K):unD b x K':=by
 unfold unD at h ⊢;split at h<;>first | exact c _ h | exact h.elim
theorem aK4 {s d:TypeId} {x:Value} {K K':Value->Prop} (b:∀ a,K a->K' a) (h:cvD P s d x K):cvD P s d x K':=by
 unfold cvD at h ⊢;split at h
 .exact b _ h
 .exact h.elim
theorem aHV {t:TypeId} {K K':Prop} (a:K->K') (h:yD P t K):yD P t K':=by
 unfold yD at h ⊢;split at h
 .exact a h
 .exact h.elim
theorem aLG {v:Value} {t:TypeId} {ok:Bool} {K K':Value->Prop} (b:∀ a,K a->K' a) (h:taD P v t ok K):taD P v t ok K':=by
 unfold taD at h ⊢;split at h
 .rename_i e1 _;exact fZ (λ_=>b _) h
 .rename_i t' c e1 _;split at h
  .exact b _ h
  .exact fZ (λ_=>b _) h
 .exact h.elim
theorem aKa {v:Value} {i:Nat} {K K':Value->Prop} (b:∀ a,K a->K' a) (h:aCW v i K):aCW v i K':=by
 unfold aCW at h ⊢;split at h
 .grind
 .exact h.elim
theorem t6 {x:Option Value} {y d:Nat} {K K':Nat->Prop} (b:∀ a,K a->K' a) (h:bdD x y d K):bdD x y d K':=by
 unfold bdD at h ⊢;split at h
 .exact pW (b _) h
 .exact h.elim
 .exact b _ h
theorem aJE {t:TypeId} {x:Value} {lo hi b:Option Value} {K K':Value->Prop} (c:∀ a,K a->K' a) (h:aBq P t x lo hi b K):aBq P t x lo hi b K':=by
 unfold aBq at h ⊢;split at h
 .split at h
  .exact t6 (λ_=>t6 λ_=>t6 λ_=>c _) h
  .exact h.elim
 .split at h
  .exact oO (λ_=>t6 (λ_=>t6 λ_=>t6 λ_=>c _)) h
  .exact h.elim
 .exact h.elim
theorem aIA {t:TypeId} {x:Value} {f:Nat} {K K':Value->Prop} (b:∀ a,K a->K' a) (h:wW P t x f K):wW P t x f K':=by
 unfold wW at h ⊢;split at h
 .split at h
  .split at h
   .split at h
    .exact oO (λ_=>b _) h
    .exact h.elim
   .exact h.elim
  .exact h.elim
 .exact h.elim
theorem aLy {t:TypeId} {x:Value} {f:Nat} {K K':Value->Prop} (b:∀ a,K a->K' a) (h:fvD P t x f K):fvD P t x f K':=by
 unfold fvD at h ⊢;split at h
 .split at h
  .split at h
   .grind
   .exact h.elim
  .exact h.elim
 .exact h.elim
theorem aIQ {t:TypeId} {x b:Value} {K K':Value->Prop} (c:∀ a,K a->K' a) (h:xY P t x b K):xY P t x b K':=by
 unfold xY at h ⊢;split at h
 .split at h
  .exact oO (λ_=>pW (c _)) h
  .exact h.elim
 .split at h
  .exact tG (λ_=>pW (c _)) h
  .exact h.elim
 .exact h.elim
theorem aLb {c:CK} {cs:List Value} {i:Nat} {K K':Value->Prop} (b:∀ a,K a->K' a) (h:geC c cs i K):geC c cs i K':=by
 unfold geC at h ⊢;split at h
 .exact aJy h λ_=>b _
 .exact aJw h λ_=>b _
 .exact aJs h λ_=>b _
 .exact aJk h λ_=>b _
 .exact h.elim
theorem aMa {l:List CK} {cs:List Value} {o k:Nat} {K K':List Value->Prop} (b:∀ a,K a->K' a) (h:geL l cs o k K):geL l cs o k K':=rI b h
theorem aJf {t:TypeId} {x c:Value} {K K':Value->Prop} (b:∀ a,K a->K' a) (h:aAL P t x c K):aAL P t x c K':=by
 unfold aAL at h ⊢;split at h
 .split at h
  .split at h
   .split at h
    .exact pW (aLb b) h
    .exact h.elim
   .split at h
    .split at h
     .exact pW (aMa λ_=>b _) h
     .exact h.elim
    .exact pW (b _) h
   .exact h.elim
  .exact h.elim
 .exact h.elim
theorem aFS {c:Call} {K Kp:Value->AP} {K' Kp':Value->HP} (hρ:EnvLe ρ ρ') (s:Sim A L h) (a:aA2 P CA ρ c A K Kp) (f:∀ v b h',Sim b L h'->K v b->K' v h') (g:∀ v b h',Sim b L h'->Kp v b->Kp' v h') :
  aCz P (qX CA) ρ' c h K' Kp':=by
 unfold aA2 at a;unfold aCz;generalize c.callee=i at a ⊢;cases i
 .refine bD hρ (λj d=>?_) a;split at d
  .exact aAf hρ (λvs e=>⟨A,L,K,Kp,s,e,f,g⟩) d
  .exact d.elim
 .exact a.elim
 .exact aAf hρ (λvs e=>aJB s e f g) a
theorem aGF {o:Oper} {K Kp:Value->AP} {Kd:Deferred->AP} {K' Kp':Value->HP} {Kd':Deferred->HP} (hρ:EnvLe ρ ρ') (s:Sim A L h) (f:opV P CA ρ o A K Kp Kd)
  (j:∀ v k h',Sim k L h'->K v k->K' v h') (n:∀ v k h',Sim k L h'->Kp v k->Kp' v h') (p:∀ v k h',Sim k L h'->Kd v k->Kd' v h'):bT P (qX CA) ρ' o h K' Kp' Kd':=by
 have g:∀ v,K v A->K' v h:=λv=>j v _ _ s;unfold opV at f;unfold bT;generalize o.op=q at f ⊢;cases q
 case move=>
  exact bD hρ g f
 case assign=>
  exact bD hρ g f
 case pick=>
  refine bD hρ (λy d=>?_) f;split at d
  .exact jO (bD hρ g) (bD hρ g) d
  .exact d.elim
 case alloc=>
  exact fZ (λz d=>nV (K':=λb=>K' (.pointer (some ⟨b,0,none⟩))) s d λb=>j _) f
 case box=>
  exact bD hρ (λv d=>nV (K':=λb=>K' (.pointer (some ⟨b,0,none⟩))) s d λb=>j _) f
 case build=>
  refine aGX hρ (λvs d=>?_) f
  skip
  split at d
  .simp_all
  .exact d.elim
 case buildSlice=>
  exact aGX hρ (λvs d=>aJ4 s d j) f
 case load=>
  exact bD hρ (λu=>oO λad d=>aEH s d g) f
 case store=>
  exact bD hρ (λu=>oO λad=>bD hρ λv d=>aIB s d (j _)) f
 case nilCheck=>
  exact bD hρ (λv=>aEY g) f
 case binOp=>
  exact bD hρ (λv=>bD hρ λB=>aJb g) f
 case unOp=>
  exact bD hρ (λv=>aL9 g) f
 case convert=>
  exact bD hρ (λv=>aK4 g) f
 case makeInterface=>
  exact aHV (bD hρ λv=>g _) f
 case makeFunc=>
  exact aAf hρ (λa=>aAf hρ λb=>g _) f
 case makeMap t r=>
  cases r
  .exact nV (K':=λb=>K' (.map (some b))) s f λb=>j _
  .exact f.elim
 case makeSlice=>
  exact bD hρ (λl=>bD hρ λc d=>aID s d j) f
 case slice=>
  exact bD hρ (λv=>aHP hρ λl=>aHP hρ λi=>aHP hρ λm=>aJE g) f
 case fieldAddr=>
  exact bD hρ (λv=>aIA g) f
 case field=>
  exact bD hρ (λv=>aLy g) f
 case indexAddr=>
  exact bD hρ (λv=>bD hρ λi=>aIQ g) f
 case index=>
  exact bD hρ (λv=>bD hρ λi=>aJf g) f
 case lookup=>
  exact bD hρ (λv=>bD hρ λi d=>aIS s d g) f
 case mapUpdate=>
  exact bD hρ (λv=>bD hρ λi=>bD hρ λx d=>aED s d (j _)) f
 case insert=>
  exact bD hρ (λv=>bD hρ λi=>bD hρ λx d=>aED s d (j _)) f
 case mapEntry=>
  exact bD hρ (λv=>bD hρ λi d=>aJq s d j) f
 case entryStore=>
  exact bD hρ (λv=>bD hρ λi=>bD hρ λx d=>aJ0 s d (j _)) f
 case range=>
  exact bD hρ (λv d=>aKc s d j) f
 case next it b=>
  cases b
  .refine bD hρ (λv d=>?_) f
   skip
   split at d
   .rename_i e;rw [e];simp only;split at d
    .rename_i e;rw [e];exact aEE s d j
    .rename_i e;rw [e];exact aEE s d j
    .exact d.elim
   .exact d.elim
  .exact f.elim
 case entry=>
  exact bD hρ (λv d=>aJo s d g) f
 case typeAssert=>
  exact bD hρ (λv=>aLG g) f
 case extract=>
  exact bD hρ (λv=>aKa g) f
 case call=>
  exact aFS hρ s f j n
 case defer c=>
  simp only at f ⊢;generalize c.callee=w at f ⊢;cases w
  .refine bD hρ (λC d=>?_) f;split at d
   .exact aAf hρ (λvs=>p _ _ _ s) d
   .exact d.elim
  .exact f.elim
  .exact f.elim
 case panic=>
  refine bD hρ (λv d=>?_) f;split at d
  .grind
  .exact d.elim
 all_goals exact f.elim
end
end Go.Dn
