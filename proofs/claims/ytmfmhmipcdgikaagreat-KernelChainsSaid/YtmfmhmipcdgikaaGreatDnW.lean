/- What is asked over a part of the heap is enough for the whole: all code. -/
import Derived.Test.YtmfmhmipcdgikaaGreatDnV
namespace Go.Dn
section
variable {P:Program} {CA:CTA} {n:Nat} {pm:List Nat} {E:Bx} {A:AH} {h:Hp} {β:Nat->Nat} {s:SA} {t:St}
theorem aAX {keep:List Nat}:∀ {l:List (Nat × Sh)},aBB keep l=true->∀ t ∈ l.map (·.1),t ∉ keep
 | [],_,_,h=>by simp at h
 | p::r,hd,t,ht=>by
  unfold aBB at hd;split at hd
  ·cases hd
  ·rename_i g;rcases List.mem_cons.1 ht with rfl | ht
   ·exact gG.1 g
   ·exact aAX hd t ht
theorem xM {cl:Cl} {i j:Nat}:∀ {bx:Bxs} {cs:List Value} {ty:TypeId},(i,(cs,ty)) ∈ bx->j<cs.length->memC i j cl=false->(i,j) ∈ protX cl bx
 | [],_,_,h,_,_=>by simp at h
 | (d,p)::r,cs,ty,h,hj,hm=>by
  have key:∀ (l:List Value) (k:Nat),k<=j->j<k+l.length->(i,j) ∈ aBU i cl l k:=by
   intro l
   induction l with
   | nil=>intro k h1 h2;simp at h2;omega
   | cons v l ih=>
    intro k h1 h2;simp only [List.length_cons] at h2;unfold aBU;by_cases e:k=j
    ·subst e;rw [hm];exact List.mem_cons_self
    ·have:=ih (k+1) (by omega) (by omega);split
     ·exact this
     ·exact List.mem_cons_of_mem _ this
  unfold protX;rcases List.mem_cons.1 h with e | h
  ·cases e;exact List.mem_append.2 (.inl (key _ 0 (Nat.zero_le _) (by simpa using hj)))
  ·exact List.mem_append.2 (.inr (xM h hj hm))
def JP (E:Bx) (β:Nat->Nat) (s:SA) (J:JoinA) (β1:Nat->Nat) (vs:List Value) (A:AH) (h:Hp):Prop:=
 (∀ i ∈ keptI s.bv J.keep,β1 i=β i)/\Sim A (bxL β1 (putCells (keepX (keptI s.bv J.keep) s.bx) J.cells vs)++E) h/\SamB s β { s with bx:=putCells (keepX (keptI s.bv J.keep) s.bx) J.cells vs } β1
theorem aDc (r:RB E β s t A h) {ids:List Nat} {cl:Cl} {vs:List Value}:((putCells (keepX ids s.bx) cl vs).map (·.1)).Nodup:=by
 rw [fA];exact r.nd.sublist (mW.map _)
theorem RB.rejoin (r:RB E β s t A h) {J:JoinA} (hd:aBB J.keep J.live=true) {e:Env} (he:∀ x v,look e x=some v->x ∈ J.live.map (·.1)) {β1:Nat->Nat} {vs:List Value} {A1:AH} {h1:Hp} (hj:JP E β s J β1 vs A1 h1) :
  RB E β1 (fQ s J e vs) ⟨e++keepE t.env J.keep,t.ds⟩ A1 h1:=by
 obtain ⟨j1,j2,j3⟩:=hj;refine ⟨λx v hx=>?_,λx i o hx=>?_,r.ds,j2,aDc r⟩
 ·have hx:look (e++keepE s.env J.keep) x=some v:=hx;show look (e++keepE t.env J.keep) x=some v;rw [lH] at hx ⊢;cases g:look e x with
  | some w=>rw [g] at hx;exact hx
  | none=>
   rw [g,Option.none_or,jJ] at hx;rw [Option.none_or,jJ];split at hx
   ·rename_i hk;rw [if_pos hk];exact r.env _ _ hx
   ·cases hx
 ·have hx:lookB (keepB s.bv J.keep) x=some (i,o):=hx;rw [mI] at hx;split at hx
  ·rename_i hk;obtain ⟨a1,p,a2⟩:=r.bv x i o hx;have hi:i ∈ keptI s.bv J.keep:=rL.2 ⟨x,hk,o,hx⟩
   have hne:look e x=none:=by
    cases g:look e x with
    | none=>rfl
    | some w=>exact absurd hk (aAX hd x (he x w g))
   refine ⟨?_,?_⟩
   ·show look (e++keepE t.env J.keep) x=_;rw [lH,hne,Option.none_or,jJ,if_pos hk,a1,j1 i hi]
   ·show ∃ p,lookX (putCells (keepX (keptI s.bv J.keep) s.bx) J.cells vs) i=some p;cases g:lookX (putCells (keepX (keptI s.bv J.keep) s.bx) J.cells vs) i with
    | some p=>exact ⟨p,rfl⟩
    | none=>
     rw [dO,fA,<- dO,gP,if_pos hi,a2] at g;cases g
  ·cases hx
theorem JP.sam {J:JoinA} {β1:Nat->Nat} {vs:List Value} {A1:AH} {h1:Hp} {e:Env} (hj:JP E β s J β1 vs A1 h1):SamB s β (fQ s J e vs) β1:=⟨rfl,rfl,hj.2.2.kept⟩
theorem JP.of {J:JoinA} (r:RB E β s t A h) {β1:Nat->Nat} {s1:SA} {t1:St} {A1:AH} {h1:Hp} (r1:RB E β1 s1 t1 A1 h1) (sb:SamB (lM s J) β s1 β1) (hh:aFS s1.bx (keptI s.bv J.keep)=true) {vs:List Value} (hg:fY s1.bx J.cells=some vs) :
  JP E β s J β1 vs A1 h1:=by
 have hk:∀ i ∈ keptI s.bv J.keep,∃ c1 ty c0,lookX s1.bx i=some (c1,ty)/\β1 i=β i/\lookX s.bx i=some (c0,ty)/\c1.length=c0.length/\∀ j,memC i j J.cells=false->c1[j]? = c0[j]?:=by
  intro i hi;obtain ⟨⟨c1,ty⟩,hp⟩:=aDO hh i hi;obtain ⟨e1,c0,e2,e3,e4⟩:=sb.kept i (List.mem_append.2 (.inl hi)) c1 ty hp;refine ⟨c1,ty,c0,hp,e1,e2,e3,λj hm=>?_⟩;rcases Nat.lt_or_ge j c0.length with g | g
  ·refine e4 j (List.mem_append.2 (.inl (xM (cs:=c0) (ty:=ty) ?_ g hm)));refine yH ?_;rw [gP,if_pos hi];exact e2
  ·rw [List.getElem?_eq_none (by omega),List.getElem?_eq_none (by omega)]
 have heq:∀ i p,lookX (putCells (keepX (keptI s.bv J.keep) s.bx) J.cells vs) i=some p->lookX s1.bx i=some p:=by
  refine lQ hg λi c0 ty hl=>?_;rw [gP] at hl;split at hl
  ·rename_i hi;obtain ⟨c1,ty1,c2,a1,a2,a3,a4,a5⟩:=hk i hi;rw [hl] at a3;cases a3;exact ⟨c1,a1,a4,a5⟩
  ·cases hl
 refine ⟨λi hi=>(hk i hi).choose_spec.choose_spec.choose_spec.2.1,aIk r1.sim r1.nd (aDc r) heq,rfl,rfl,λi hi cs ty hl=>?_⟩;obtain ⟨e1,c0,e2,e3,e4⟩:=sb.kept i (List.mem_append.2 (.inr hi)) cs ty (heq i _ hl);exact ⟨e1,c0,e2,e3,λj hj=>e4 j (List.mem_append.2 (.inr hj))⟩
theorem JP.back {J:JoinA} (r:RB E β s t A h) {β1 β2:Nat->Nat} {vs vs2:List Value} {e:Env} {A1 A2:AH} {h1 h2:Hp} (hj:JP E β s J β1 vs A1 h1) (hl:J.cells.length=vs2.length) (hj2:JP E β1 (fQ s J e vs) J β2 vs2 A2 h2):JP E β s J β2 vs2 A2 h2:=by
 have hk:keptI (fQ s J e vs).bv J.keep=keptI s.bv J.keep:=oE _ λ_ ht=>ht
 have hx:putCells (keepX (keptI (fQ s J e vs).bv J.keep) (fQ s J e vs).bx) J.cells vs2=putCells (keepX (keptI s.bv J.keep) s.bx) J.cells vs2:=by
  rw [hk]
  have:keepX (keptI s.bv J.keep) (fQ s J e vs).bx=(fQ s J e vs).bx:=xH λi hi=>by
   have hi:i ∈ (putCells (keepX (keptI s.bv J.keep) s.bx) J.cells vs).map (·.1):=hi;rw [fA] at hi;exact aF2 hi
  rw [this];exact (iW gU hl (r.nd.sublist (mW.map _))).symm
 obtain ⟨a1,a2,a3⟩:=hj2;rw [hx] at a2 a3;rw [hk] at a1;exact ⟨λi hi=>(a1 i hi).trans (hj.1 i hi),a2,(hj.sam (e:=e)).trans ⟨a3.pi,a3.pr,a3.kept⟩⟩
theorem SamB.back {J:JoinA} {β1:Nat->Nat} {s1:SA} (sb:SamB (lM s J) β s1 β1):SamB s β (aD3 s s1) β1:=by
 refine ⟨rfl,rfl,λi hi cs ty hl=>?_⟩;obtain ⟨e1,c0,e2,e3,e4⟩:=sb.kept i (List.mem_append.2 (.inr hi)) cs ty hl;exact ⟨e1,c0,e2,e3,λj hj=>e4 j (List.mem_append.2 (.inr hj))⟩
theorem RB.back {β1:Nat->Nat} {s1:SA} {t1:St} {A1:AH} {h1:Hp} (r1:RB E β1 s1 t1 A1 h1):RB E β1 (aD3 s s1) t1 A1 h1:=⟨r1.env,r1.bv,r1.ds,r1.sim,r1.nd⟩
theorem RB.gd {J:JoinA} (r:RB E β s t A h):RB E β (lM s J) t A h:=⟨r.env,r.bv,r.ds,r.sim,r.nd⟩
theorem aAU {ops:List Oper} {ord:List Nat}:∀ {fl:List Nat},aBl P n ops ord s fl=true->∀ j ∈ fl,aHg P n ops ord s j=true
 | [],_,_,h=>by simp at h
 | x::r,hf,j,hj=>by
  unfold aBl at hf;rw [Bool.and_eq_true] at hf;rcases List.mem_cons.1 hj with rfl | hj
  ·exact hf.1
  ·exact aAU hf.2 j hj
theorem vP {d j:Nat}:∀ {ops:List Oper} {k:Nat},mH d j ops k=true->∀ (i:Nat) (o:Oper),ops[i]? = some o->k+i≠j->o.dst≠some d
 | [],_,_,_,_,h,_=>by simp at h
 | o0::r,k,hd,i,o,ho,hne=>by
  unfold mH at hd;cases i with
  | zero=>
   simp at ho;subst ho;intro e;rw [e] at hd;simp only at hd;rw [gC.2 rfl,aA9.2 (by simpa using hne)] at hd;cases hd
  | succ i=>
   have ho:r[i]? = some o:=by simpa using ho
   have h2:mH d j r (k+1)=true:=by
    split at hd
    ·split at hd
     ·cases hd
     ·exact hd
    ·exact hd
   exact vP h2 i o ho (by omega)
theorem yG:∀ {l:List Nat},v5 l=true->l.Nodup
 | [],_=>List.nodup_nil
 | x::r,h=>by
  unfold v5 at h;rw [Bool.and_eq_true] at h;refine List.nodup_cons.2 ⟨?_,yG h.2⟩;have:=h.1;simp only [Bool.not_eq_true'] at this;exact gG.1 this
theorem xT {m:Nat}:∀ {l:List Nat},vL m l=true->∀ x ∈ l,x<m
 | [],_,_,h=>by simp at h
 | y::r,h,x,hx=>by
  unfold vL at h;rw [Bool.and_eq_true] at h;rcases List.mem_cons.1 hx with rfl | hx
  ·exact Nat.le_of_ble_eq_true h.1
  ·exact xT h.2 x hx
theorem FI.start {ops:List Oper} {ord fl:List Nat} (h1:v5 ord=true) (h2:vL ops.length ord=true) (h3:aBl P n ops ord s fl=true) :
  FI P n pm ops fl (Array.replicate ops.length false) (Array.replicate ops.length false) ord [] s t:=by
 have un0:∀ j ∈ ord,(Array.replicate ops.length false).getD j true=false:=λj hj=>by
  have:=xT h2 j hj;simp [this]
 have one:∀ j ∈ fl,∃ o d,ops[j]? = some o/\isFl P n o=some d/\(look s.env d=none/\lookB s.bv d=none)/\memN j ord=true/\∀ k ok,ops[k]? = some ok->k≠j->ok.dst≠some d:=by
  intro j hj;have:=aAU h3 j hj;unfold aHg at this;split at this
  ·rename_i o ho;split at this
   ·rename_i d hd;split at this
    ·rename_i e1 e2;rw [Bool.and_eq_true] at this;exact ⟨o,d,ho,hd,⟨e1,e2⟩,this.2,λk ok hk hne=>vP this.1 k ok hk (by omega)⟩
    ·cases this
   ·cases this
  ·cases this
 refine ⟨λ_ _ _=>rfl,(by simp [idx]),rfl,(by simp [idx]),(by simp [idx]),yG h1,λj hj _=>?_,un0,λj hj=>?_,λj hj _ o d ho hd=>?_,(by simp)⟩
 ·obtain ⟨_,_,_,_,_,g,_⟩:=one j hj;exact eA.1 g
 ·obtain ⟨o,d,g1,g2,_,g3,g4⟩:=one j hj;exact ⟨o,d,g1,g2,trivial,g4⟩
 ·obtain ⟨o',d',g1,g2,g3,_,_⟩:=one j hj;rw [ho] at g1;cases g1;rw [hd] at g2;cases g2;exact g3
theorem fC:∀ (c:Code) (ann:AnnA) (K:Ex->SA->AP) (K':Ex->St->HP) (β:Nat->Nat) (s:SA) (t:St) (A:AH) (h:Hp),RB E β s t A h->iL P CA n pm ann c K s A->
  (∀ e β' s' t' A' h',RB E β' s' t' A' h'->SamB s β s' β'->K e s' A'->K' e t' h')->tI P (nI CA) n ann.h c K' t h
 | .skip,ann,K,K',β,s,t,A,h,r,hh,hk=>by
  rcases ann with _ | k | ⟨od,fl⟩ | ⟨_ | J,a1,b1⟩ | ⟨a1,b1⟩ | a1 | ⟨J,a1⟩<;>first | exact hk _ β s t A h r (SamB.refl _ _) hh | exact hh.elim
 | .label _,ann,K,K',β,s,t,A,h,r,hh,hk=>by
  rcases ann with _ | k | ⟨od,fl⟩ | ⟨_ | J,a1,b1⟩ | ⟨a1,b1⟩ | a1 | ⟨J,a1⟩<;>first | exact hk _ β s t A h r (SamB.refl _ _) hh | exact hh.elim
 | .ret,ann,K,K',β,s,t,A,h,r,hh,hk=>by
  rcases ann with _ | k | ⟨od,fl⟩ | ⟨_ | J,a1,b1⟩ | ⟨a1,b1⟩ | a1 | ⟨J,a1⟩<;>first | exact hk _ β s t A h r (SamB.refl _ _) hh | exact hh.elim
 | .exit id,ann,K,K',β,s,t,A,h,r,hh,hk=>by
  rcases ann with _ | k | ⟨od,fl⟩ | ⟨_ | J,a1,b1⟩ | ⟨a1,b1⟩ | a1 | ⟨J,a1⟩<;>first | exact hk _ β s t A h r (SamB.refl _ _) hh | exact hh.elim
 | .region id ops draw,ann,K,K',β,s,t,A,h,r,hh,hk=>by
  cases draw with
  | false=>
   rcases ann with _ | k | ⟨od,fl⟩ | ⟨_ | J,a1,b1⟩ | ⟨a1,b1⟩ | a1 | ⟨J,a1⟩<;>first | exact hh.elim | skip
   unfold iL at hh;unfold AnnA.h tI;exact denOpsA_up _ β s t A h r hh (hk .normal) λv=>hk (.panic v)
  | true=>
   cases ann with
   | draw k=>
    unfold iL at hh;unfold AnnA.h tI;split at hh
    ·rename_i e1;rw [e1];simp only;split at hh
     ·rename_i e2;rw [e2];exact denStA_up _ s t r hh λs' t' r' sb=>hk .normal β s' t' A h r' sb
     ·exact hh.elim
    ·rename_i e1;rw [e1];simp only;split at hh
     ·rename_i e2;rw [e2];exact denStA_up _ s t r hh λs' t' r' sb hd=>denOpsA_up _ β s' t' A h r' hd (λβ2 s2 t2 A2 h2 r2 sb2=>hk .normal β2 s2 t2 A2 h2 r2 (sb.trans sb2)) λv β2 s2 t2 A2 h2 r2 sb2=>hk (.panic v) β2 s2 t2 A2 h2 r2 (sb.trans sb2)
     ·exact hh.elim
   | drawS ord fl=>
    unfold iL at hh;unfold AnnA.h tI;split at hh
    ·rename_i hc;rw [Bool.and_eq_true,Bool.and_eq_true,Bool.and_eq_true,Bool.and_eq_true] at hc;obtain ⟨⟨c1,c2,c3,c4⟩,c5⟩:=hc;rw [c1];have hlen:=gC.1 c2;have q:FI P n pm ops.toList fl (Array.replicate ops.toList.length false) (Array.replicate ops.toList.length false) ord [] s t:=FI.start c3 c4 c5;have r0:RB (EF []++E) β s t A h:=r
     have:=aEU (K':=K' .normal) (Kp':=λv h=>K' (.panic v) ⟨stripE (ops.toList.flatMap opDst) t.env,t.ds⟩ h) (ops.toList.length+ord.length) ops.toList.length ord.length ord _ _ [] [] [] (λ_ _=>True) [] β s t A h (Nat.le_refl _) (by simp [hlen]) q r0 ⟨λ_ hp=>(by simp at hp),λ_ hp=>(by simp at hp),λ_ hp=>(by simp at hp)⟩ (λ_ _ _=>trivial) hh
      (hk .normal) (λv β2 s2 t2 A2 h2 r2 sb2 hp=>?_)
     ·have hn:fN [] ord=ord:=by unfold fN;simp [idx]
      rw [hn] at this;exact this
     ·refine hk (.panic v) β2 { s2 with env:=stripE (ops.toList.flatMap opDst) s.env,bv:=[],ds:=s.ds } ⟨stripE (ops.toList.flatMap opDst) t.env,t.ds⟩ A2 h2 ⟨λx u hx=>?_,λx i o hx=>by simp [lookB] at hx,?_,r2.sim,r2.nd⟩ ⟨sb2.pi,sb2.pr,sb2.kept⟩ hp
      ·exact aAW r.env x u hx
      ·exact r.ds
    ·exact hh.elim
   | seq j a b=>cases j<;>exact hh.elim
   | _=>exact hh.elim
 | .seq x y,ann,K,K',β,s,t,A,h,r,hh,hk=>by
  cases ann with
  | seq j a b=>
   cases j with
   | none=>
    unfold iL at hh;unfold AnnA.h tI;refine fC x a _ _ β s t A h r hh λe β' s' t' A' h' r' sb hke=>?_;cases e with
    | normal=>exact fC y b K K' β' s' t' A' h' r' hke λe2 β2 s2 t2 A2 h2 r2 sb2=>hk e2 β2 s2 t2 A2 h2 r2 (sb.trans sb2)
    | ret=>exact hk _ β' s' t' A' h' r' sb hke
    | exit id=>exact hk _ β' s' t' A' h' r' sb hke
    | panic v=>exact hk _ β' s' t' A' h' r' sb hke
   | some J=>
    unfold iL at hh;unfold AnnA.h tI;split at hh
    ·rename_i hok;unfold aIJ at hok;rw [Bool.and_eq_true] at hok;rw [hok.1];simp only;obtain ⟨R,h1,h2⟩:=hh;have h1:=uA _ _ _ h1;refine ⟨aFf (λ(R1:ArC (cksOf J.cells) AP) (h1:Hp)=>∃ β1 vs A1,JP E β s J β1 vs A1 h1/\iI (cksOf J.cells) AP R1 vs λR2=>R2 A1) J.live R,?_,?_⟩
     ·refine tT _ _ _ _ (λe R1 ⟨hdom,hb⟩ h' ⟨β1,vs,A1,hj,ha⟩=>?_) h1;obtain ⟨R2,g1,g2⟩:=zO _ _ _ _ _ _ ha hb;exact fC y b K K' β1 (fQ s J e vs) _ A1 h' (r.rejoin hok.2 hdom hj) (g1 A1 g2) λe2 β2 s2 t2 A2 h2 r2 sb2=>hk e2 β2 s2 t2 A2 h2 r2 (hj.sam.trans sb2)
     ·refine fC x a _ _ β (lM s J) t A h r.gd h2 λe β' s' t' A' h' r' sb hke=>?_;cases e with
      | normal=>
       refine pQ r'.env _ _ _ _ (λR1 hR=>?_) hke;unfold apX at hR;split at hR
       ·rename_i vs g1 g2;exact ⟨β',vs,A',JP.of r r' sb g1 g2,hR⟩
       ·exact hR.elim
      | ret=>exact hk _ β' _ t' A' h' r'.back sb.back hke
      | exit id=>exact hk _ β' _ t' A' h' r'.back sb.back hke
      | panic v=>exact hk _ β' _ t' A' h' r'.back sb.back hke
    ·exact hh.elim
  | _=>exact hh.elim
 | .cond c x y,ann,K,K',β,s,t,A,h,r,hh,hk=>by
  cases ann with
  | cond a b=>
   unfold iL at hh;unfold AnnA.h tI;refine bC r.env (λv h1=>?_) hh;split at h1
   ·exact iT (λq=>fC x a K K' β s t A h r q hk) (λq=>fC y b K K' β s t A h r q hk) h1
   ·exact h1.elim
  | seq j a b=>cases j<;>exact hh.elim
  | _=>exact hh.elim
 | .block id x,ann,K,K',β,s,t,A,h,r,hh,hk=>by
  cases ann with
  | block a=>
   unfold iL at hh;unfold AnnA.h tI;refine fC x a _ _ β s t A h r hh λe β' s' t' A' h' r' sb hke=>?_;cases e with
   | normal=>exact hk _ β' s' t' A' h' r' sb hke
   | ret=>exact hk _ β' s' t' A' h' r' sb hke
   | panic v=>exact hk _ β' s' t' A' h' r' sb hke
   | exit id'=>
    simp only at hke ⊢;cases g:Nat.beq id' id with
    | true=>rw [g] at hke;exact hk _ β' s' t' A' h' r' sb hke
    | false=>rw [g] at hke;exact hk _ β' s' t' A' h' r' sb hke
  | seq j a b=>cases j<;>exact hh.elim
  | _=>exact hh.elim
 | .loop x,ann,K,K',β,s,t,A,h,r,hh,hk=>by
  cases ann with
  | loop J a=>
   unfold iL at hh;unfold AnnA.h tI;split at hh
   ·rename_i hok;unfold aIJ at hok;rw [Bool.and_eq_true] at hok;rw [hok.1];simp only;obtain ⟨I,h1,h2⟩:=hh;have h2:=uA _ _ _ h2;refine ⟨aFf (λ(I1:ArC (cksOf J.cells) (Nat->AP)) (m:Nat) (h1:Hp)=>∃ β1 vs A1,JP E β s J β1 vs A1 h1/\iI (cksOf J.cells) (Nat->AP) I1 vs λI2=>I2 m A1) J.live I,?_,?_⟩
    ·refine pQ r.env _ _ _ _ (λI1 hI=>?_) h1;unfold apX at hI;split at hI
     ·rename_i vs g1 g2;obtain ⟨m,hm⟩:=aCc (cksOf J.cells) (Nat->AP) I1 vs (λm (I2:Nat->AP)=>I2 m A) hI;have r2:RB E β (lM s J) t A h:=r.gd;exact ⟨m,β,vs,A,JP.of r r2 (SamB.refl _ _) g1 g2,hm⟩
     ·exact hI.elim
    ·refine tT _ _ _ _ (λe I1 ⟨hdom,hb⟩ m h' ⟨β1,vs,A1,hj,ha⟩=>?_) h2;obtain ⟨I2,g1,g2⟩:=zO _ _ _ _ _ _ ha hb;have r1:=r.rejoin hok.2 hdom hj;refine fC x a _ _ β1 (lM (fQ s J e vs) J) _ A1 h' r1.gd (g1 m A1 g2) λe2 β' s' t' A' h2 r' sb hke=>?_;cases e2 with
     | normal=>
      refine pQ r'.env _ _ _ _ (λI3 hI=>?_) hke;unfold apX at hI;split at hI
      ·rename_i vs2 g3 g4;obtain ⟨m',hm⟩:=aCc (cksOf J.cells) (Nat->AP) I3 vs2 (λm' (I2:Nat->AP)=>m'<m/\I2 m' A') hI;obtain ⟨hlt,hm⟩:=aDp (cksOf J.cells) (Nat->AP) I3 vs2 _ hm;have hj2:=JP.of r1 r' sb (by rw [show keptI (fQ s J e vs).bv J.keep=keptI s.bv J.keep from oE _ λ_ ht=>ht];exact g3) g4;exact ⟨m',hlt,β',vs2,A',JP.back r hj (pX g4) hj2,hm⟩
      ·exact hI.elim
     | ret=>exact hk _ β' _ t' A' h2 r'.back (hj.sam.trans sb.back) hke
     | exit id=>exact hk _ β' _ t' A' h2 r'.back (hj.sam.trans sb.back) hke
     | panic v=>exact hk _ β' _ t' A' h2 r'.back (hj.sam.trans sb.back) hke
   ·exact hh.elim
  | seq j a b=>cases j<;>exact hh.elim
  | _=>exact hh.elim
 | .scope x,ann,K,K',β,s,t,A,h,r,hh,hk=>by
  rcases ann with _ | k | ⟨od,fl⟩ | ⟨_ | J,a1,b1⟩ | ⟨a1,b1⟩ | a1 | ⟨J,a1⟩<;>exact hh.elim
 | .goto l,ann,K,K',β,s,t,A,h,r,hh,hk=>by
  rcases ann with _ | k | ⟨od,fl⟩ | ⟨_ | J,a1,b1⟩ | ⟨a1,b1⟩ | a1 | ⟨J,a1⟩<;>exact hh.elim
 | .rangeFunc f ps a b,ann,K,K',β,s,t,A,h,r,hh,hk=>by
  rcases ann with _ | k | ⟨od,fl⟩ | ⟨_ | J,a1,b1⟩ | ⟨a1,b1⟩ | a1 | ⟨J,a1⟩<;>exact hh.elim
 | .refuse w,ann,K,K',β,s,t,A,h,r,hh,hk=>by
  rcases ann with _ | k | ⟨od,fl⟩ | ⟨_ | J,a1,b1⟩ | ⟨a1,b1⟩ | a1 | ⟨J,a1⟩<;>exact hh.elim
end
end Go.Dn
