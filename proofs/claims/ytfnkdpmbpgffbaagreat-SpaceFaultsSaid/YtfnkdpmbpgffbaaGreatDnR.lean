/- What is asked over a part of the heap is enough for the whole: operations. -/
import Derived.Test.YtfnkdpmbpgffbaaGreatDnQ
import Derived.Test.YtfnkdpmbpgffbaaGreatDnI
namespace Go.Dn
def sF (CA:CTA):CT:=λf args K Kp h=>∃ A L KA KpA,Sim A L h/\CA f args KA KpA A/\(∀ v A' h',Sim A' L h'->KA v A'->K v h')/\∀ v A' h',Sim A' L h'->KpA v A'->Kp v h'
section
variable {P:Program} {CA:CTA} {A:AH} {L:Bx} {h:Hp} {ρ ρ':Env}
theorem jR {b:Bool} {X Y a c:Prop} (d:X->a) (e:Y->c) (h:bsel b X Y):bsel b a c:=gP h d e
theorem t6 {p:Option Addr} {K K':Addr->Prop} (b:∀ a,K a->K' a) (h:aF p K):aF p K':=aD3 h b
theorem qH {i:Int} {n:Nat} {K K':Prop} (a:K->K') (h:bC i n K):bC i n K':=aI7 h a
theorem oK {v:Value} {K K':Addr->Prop} (b:∀ a,K a->K' a) (h:lC v K):lC v K':=by
 unfold lC at h ⊢;split at h
 .exact t6 b h
 .exact h.elim
theorem aE8 {v:Value} {K K':Value->Prop} (b:∀ a,K a->K' a) (h:yZ v K):yZ v K':=by
 unfold yZ at h ⊢;split at h
 .exact t6 (λ_=>b _) h
 .exact b _ h
 .exact h.elim
theorem qD {c:BinOp} {b:Bool} {K K':Value->Prop} (d:∀ a,K a->K' a) (h:eqD c b K):eqD c b K':=by
 unfold eqD at h ⊢;split at h
 .exact d _ h
 .exact d _ h
 .exact h.elim
theorem aLY {c:BinOp} {k:IntKind} {a b:Int} {K K':Value->Prop} (d:∀ a,K a->K' a) (h:arD c k a b K):arD c k a b K':=by
 unfold arD at h ⊢;split at h<;>first | exact d _ h | exact jR id (d _) h | exact h.elim
theorem aLn {c:BinOp} {k:IntKind} {a b:Int} {K K':Value->Prop} (d:∀ a,K a->K' a) (h:shD c k a b K):shD c k a b K':=by
 unfold shD at h ⊢;split at h<;>first | exact jR id (d _) h | exact h.elim
theorem aI4 {c:BinOp} {t:TypeId} {x y:Value} {K K':Value->Prop} (b:∀ a,K a->K' a) (h:aBc P c t x y K):aBc P c t x y K':=by
 unfold aBc at h ⊢;split at h
 .cases hs:isSh c with
  | true=>rw [hs] at h;exact aLn b h
  | false=>rw [hs] at h;exact jR (aLY b) id h
 .cases e:P.underlying t with
  | none=>rw [e] at h;exact h.elim
  | some d=>
   rw [e] at h;cases d<;>first | exact qD b h | exact h.elim
 .cases e:P.underlying t with
  | none=>rw [e] at h;exact h.elim
  | some d=>
   rw [e] at h;cases d<;>first | exact qD b h | exact h.elim
 .cases e:P.underlying t with
  | none=>rw [e] at h;exact h.elim
  | some d=>
   rw [e] at h;cases d<;>first | exact qD b h | exact h.elim
 .cases e:P.underlying t with
  | none=>rw [e] at h;exact h.elim
  | some d=>
   rw [e] at h;cases d<;>first | exact qD b h | exact h.elim
 .split at h
  .split at h
   .exact qD b h
   .exact h.elim
  .split at h
   .obtain ⟨as,f,g,i,j,k,h⟩:=h;exact ⟨as,f,g,i,j,k,qD b h⟩
   .split at h
    .exact qD b h
    .exact h.elim
   .exact h.elim
  .exact h.elim
 .exact h.elim
theorem aL0 {b:UnOp} {x:Value} {K K':Value->Prop} (c:∀ a,K a->K' a) (h:unD b x K):unD b x K':=by
 unfold unD at h ⊢;split at h<;>first | exact c _ h | exact h.elim
theorem aKW {s d:TypeId} {x:Value} {K K':Value->Prop} (b:∀ a,K a->K' a) (h:cvD P s d x K):cvD P s d x K':=by
 unfold cvD at h ⊢;split at h
 .exact b _ h
 .exact h.elim
theorem aHs {t:TypeId} {K K':Prop} (a:K->K') (h:xQ P t K):xQ P t K':=by
 unfold xQ at h ⊢;split at h
 .exact a h
 .exact h.elim
theorem aMc {v:Value} {t:TypeId} {ok:Bool} {K K':Value->Prop} (b:∀ a,K a->K' a) (h:taD P v t ok K):taD P v t ok K':=by
 unfold taD at h ⊢;split at h
 .rename_i e1 _;exact gD (λ_=>b _) h
 .rename_i t' c e1 _;split at h
  .exact b _ h
  .exact gD (λ_=>b _) h
 .exact h.elim
theorem aIH {v:Value} {i:Nat} {K K':Value->Prop} (b:∀ a,K a->K' a) (h:aC3 v i K):aC3 v i K':=by
 unfold aC3 at h ⊢;split at h
 .grind
 .exact h.elim
theorem tO {x:Option Value} {y d:Nat} {K K':Nat->Prop} (b:∀ a,K a->K' a) (h:bdD x y d K):bdD x y d K':=by
 unfold bdD at h ⊢;split at h
 .exact qH (b _) h
 .exact h.elim
 .exact b _ h
theorem aKq {t:TypeId} {x:Value} {lo hi b:Option Value} {K K':Value->Prop} (c:∀ a,K a->K' a) (h:aBj P t x lo hi b K):aBj P t x lo hi b K':=by
 unfold aBj at h ⊢;split at h
 .split at h
  .exact tO (λ_=>tO λ_=>tO λ_=>c _) h
  .exact h.elim
 .split at h
  .exact oK (λ_=>tO (λ_=>tO λ_=>tO λ_=>c _)) h
  .exact h.elim
 .exact h.elim
theorem aIU {t:TypeId} {x:Value} {f:Nat} {K K':Value->Prop} (b:∀ a,K a->K' a) (h:xB P t x f K):xB P t x f K':=by
 unfold xB at h ⊢;split at h
 .split at h
  .split at h
   .split at h
    .exact oK (λ_=>b _) h
    .exact h.elim
   .exact h.elim
  .exact h.elim
 .exact h.elim
theorem aLM {t:TypeId} {x:Value} {f:Nat} {K K':Value->Prop} (b:∀ a,K a->K' a) (h:fvD P t x f K):fvD P t x f K':=by
 unfold fvD at h ⊢;split at h
 .split at h
  .split at h
   .grind
   .exact h.elim
  .exact h.elim
 .exact h.elim
theorem aKf {t:TypeId} {x b:Value} {K K':Value->Prop} (c:∀ a,K a->K' a) (h:yT P t x b K):yT P t x b K':=by
 unfold yT at h ⊢;split at h
 .split at h
  .exact oK (λ_=>qH (c _)) h
  .exact h.elim
 .split at h
  .exact t6 (λ_=>qH (c _)) h
  .exact h.elim
 .exact h.elim
theorem aLj {c:CK} {cs:List Value} {i:Nat} {K K':Value->Prop} (b:∀ a,K a->K' a) (h:geC c cs i K):geC c cs i K':=by
 unfold geC at h ⊢;split at h
 .exact aIZ h λ_=>b _
 .exact aKj h λ_=>b _
 .exact aJv h λ_=>b _
 .exact aJA h λ_=>b _
 .exact h.elim
theorem aLe {l:List CK} {cs:List Value} {o k:Nat} {K K':List Value->Prop} (b:∀ a,K a->K' a) (h:geL l cs o k K):geL l cs o k K':=sC b h
theorem aJY {t:TypeId} {x c:Value} {K K':Value->Prop} (b:∀ a,K a->K' a) (h:aBE P t x c K):aBE P t x c K':=by
 unfold aBE at h ⊢;split at h
 .split at h
  .split at h
   .split at h
    .exact qH (aLj b) h
    .exact h.elim
   .split at h
    .split at h
     .exact qH (aLe λ_=>b _) h
     .exact h.elim
    .exact qH (b _) h
   .exact h.elim
  .exact h.elim
 .exact h.elim
theorem aGn {c:Call} {K Kp:Value->AP} {K' Kp':Value->HP} (hρ:EnvLe ρ ρ') (s:Sim A L h) (a:aBt P CA ρ c A K Kp) (f:∀ v b h',Sim b L h'->K v b->K' v h') (g:∀ v b h',Sim b L h'->Kp v b->Kp' v h') :
  aBZ P (sF CA) ρ' c h K' Kp':=by
 unfold aBt at a;unfold aBZ;generalize c.callee=i at a ⊢;cases i
 .refine bE hρ (λj d=>?_) a;split at d
  .exact aAf hρ (λvs e=>⟨A,L,K,Kp,s,e,f,g⟩) d
  .exact d.elim
 .exact a.elim
 .exact aAf hρ (λvs e=>aJX s e f g) a
theorem aGR {o:Oper} {K Kp:Value->AP} {Kd:Deferred->AP} {K' Kp':Value->HP} {Kd':Deferred->HP} (hρ:EnvLe ρ ρ') (s:Sim A L h) (f:opV P CA ρ o A K Kp Kd)
  (j:∀ v k h',Sim k L h'->K v k->K' v h') (n:∀ v k h',Sim k L h'->Kp v k->Kp' v h') (p:∀ v k h',Sim k L h'->Kd v k->Kd' v h'):bT P (sF CA) ρ' o h K' Kp' Kd':=by
 have g:∀ v,K v A->K' v h:=λv=>j v _ _ s;unfold opV at f;unfold bT;generalize o.op=q at f ⊢;cases q
 case move=>
  exact bE hρ g f
 case assign=>
  exact bE hρ g f
 case pick=>
  refine bE hρ (λy d=>?_) f;split at d
  .exact jR (bE hρ g) (bE hρ g) d
  .exact d.elim
 case alloc=>
  exact gD (λz d=>oR (K':=λb=>K' (.pointer (some ⟨b,0,none⟩))) s d λb=>j _) f
 case box=>
  exact bE hρ (λv d=>oR (K':=λb=>K' (.pointer (some ⟨b,0,none⟩))) s d λb=>j _) f
 case build=>
  refine aG7 hρ (λvs d=>?_) f
  skip
  split at d
  .simp_all
  .exact d.elim
 case buildSlice=>
  exact aG7 hρ (λvs d=>aI5 s d j) f
 case load=>
  exact bE hρ (λu=>oK λad d=>aEw s d g) f
 case store=>
  exact bE hρ (λu=>oK λad=>bE hρ λv d=>aJk s d (j _)) f
 case nilCheck=>
  exact bE hρ (λv=>aE8 g) f
 case binOp=>
  exact bE hρ (λv=>bE hρ λB=>aI4 g) f
 case unOp=>
  exact bE hρ (λv=>aL0 g) f
 case convert=>
  exact bE hρ (λv=>aKW g) f
 case makeInterface=>
  exact aHs (bE hρ λv=>g _) f
 case makeFunc=>
  exact aAf hρ (λa=>aAf hρ λb=>g _) f
 case makeMap t r=>
  cases r
  .exact oR (K':=λb=>K' (.map (some b))) s f λb=>j _
  .exact f.elim
 case makeSlice=>
  exact bE hρ (λl=>bE hρ λc d=>aJs s d j) f
 case slice=>
  exact bE hρ (λv=>aGQ hρ λl=>aGQ hρ λi=>aGQ hρ λm=>aKq g) f
 case fieldAddr=>
  exact bE hρ (λv=>aIU g) f
 case field=>
  exact bE hρ (λv=>aLM g) f
 case indexAddr=>
  exact bE hρ (λv=>bE hρ λi=>aKf g) f
 case index=>
  exact bE hρ (λv=>bE hρ λi=>aJY g) f
 case lookup=>
  exact bE hρ (λv=>bE hρ λi d=>aJt s d g) f
 case mapUpdate=>
  exact bE hρ (λv=>bE hρ λi=>bE hρ λx d=>aEX s d (j _)) f
 case insert=>
  exact bE hρ (λv=>bE hρ λi=>bE hρ λx d=>aEX s d (j _)) f
 case mapEntry=>
  exact bE hρ (λv=>bE hρ λi d=>aJe s d j) f
 case entryStore=>
  exact bE hρ (λv=>bE hρ λi=>bE hρ λx d=>aJJ s d (j _)) f
 case range=>
  exact bE hρ (λv d=>aI3 s d j) f
 case next it b=>
  cases b
  .refine bE hρ (λv d=>?_) f
   skip
   split at d
   .rename_i e;rw [e];simp only;split at d
    .rename_i e;rw [e];exact aFg s d j
    .rename_i e;rw [e];exact aFg s d j
    .exact d.elim
   .exact d.elim
  .exact f.elim
 case entry=>
  exact bE hρ (λv d=>aKa s d g) f
 case typeAssert=>
  exact bE hρ (λv=>aMc g) f
 case extract=>
  exact bE hρ (λv=>aIH g) f
 case call=>
  exact aGn hρ s f j n
 case defer c=>
  simp only at f ⊢;generalize c.callee=w at f ⊢;cases w
  .refine bE hρ (λC d=>?_) f;split at d
   .exact aAf hρ (λvs=>p _ _ _ s) d
   .exact d.elim
  .exact f.elim
  .exact f.elim
 case panic=>
  refine bE hρ (λv d=>?_) f;split at d
  .grind
  .exact d.elim
 all_goals exact f.elim
end
end Go.Dn
